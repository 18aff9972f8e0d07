/- pithref5: Induced, walked: its rows are appended in place. No condition. -/
import Derived.Test.YthbojpaghbbnnaaYA
import Derived.Test.YthbojpaghbbnnaaYC
import Derived.Test.YthbojpaghbbnnaaHF
import Derived.Test.YthbojpaghbbnnaaZR
import Derived.Test.YthbojpaghbbnnaaZS
namespace Go.Proofs.Ythbojpaghbbnnaa.Z
open Go Go.RowKit
set_option linter.unusedVariables false
set_option linter.unusedSimpArgs false
def kk (keep : List Bool) (x : Int) : Bool := decide (x < (keep.length : Int)) && keep.getD x.toNat false
theorem kept5_is (keep : List Bool) {x : Int} (hx : 0 ≤ x) : kept5.pre keep x = true ∧ kept5.fn keep x = (kk keep x, ()) := by
  refine kept5.is_fn _ _ ?_
  unfold kept5.run' kk
  by_cases h : x < (keep.length : Int)
  · simp only [h, hx, decide_true, Bool.true_and, if_true]
  · simp only [h, decide_false, Bool.false_and, Bool.false_eq_true, if_false]
theorem kept5_calls {U : Nat → Prop} {v1 : Value} {keep : List Bool} {x : Int} (w : World) (hU : ∀ b, U b → b < w.heap.size) (h : IRd rho U w (.list .bool) v1 keep) (hx : 0 ≤ x) :
    Calls Try.prog 119 #[v1, .int .i64 x] w fun e w' => e = .returned (.bool (kk keep x)) ∧ Below w.heap.size w w' := by
  have hs := kept5.okR.2
  have hap : Apart 0 (fun _ => nilV) := apart0 _
  refine (hs (keep, x, ()) (kept5_is keep hx).1 w U U (fun _ => nilV) [v1, .int .i64 x] (fun b hb => ⟨hU b hb, fun i hi => absurd hi (Nat.not_lt_zero i)⟩) (fun b hb => ⟨hU b hb, fun i hi => absurd hi (Nat.not_lt_zero i)⟩) (fun _ _ h => h) hap ⟨h.tr (tr0' w), int_out x, trivial⟩).mono ?_
  rintro e w' ⟨rvs, hd', rfl, hag, _, _, _, _, hr⟩
  match rvs, hr with
  | [v], ⟨h1, _⟩ =>
    refine ⟨?_, hag.below (fun b _ hb => hb.elim id (fun ⟨i, hi, _⟩ => absurd hi (Nat.not_lt_zero i)))⟩
    obtain ⟨cs, e1, e2⟩ := h1
    have e3 : (dr (kept5.sig.fn (keep, x, ()))).1 = kk keep x := congrArg (·.1) (kept5_is keep hx).2
    rw [e3] at e2
    rw [e1, show cs = [.bool (kk keep x)] from e2]
    rfl
/-- What a pointer to a document's graph says. -/
def In5 (w : World) (v : Value) (L : List (List Int)) : Prop := ∃ gb go A c, v = .pointer (some ⟨gb, go, none⟩) ∧ gb < w.heap.size ∧ (∀ w', Below w.heap.size w w' → w'.cell? ⟨gb, go, none⟩ = some (.slice A L.length c)) ∧
  ∀ u, u < L.length → ∃ ab ao B d, A = some ⟨ab, ao, none⟩ ∧ ab < w.heap.size ∧ (∀ w', Below w.heap.size w w' → w'.cell? ⟨ab, ao + u, none⟩ = some (.slice B (L.getD u []).length d)) ∧
    ∀ i, i < (L.getD u []).length → ∃ bb bo, B = some ⟨bb, bo, none⟩ ∧ bb < w.heap.size ∧ ∀ w', Below w.heap.size w w' → w'.cell? ⟨bb, bo + i, none⟩ = some (.int .i64 ((L.getD u []).getD i 0))
theorem in5 {U : Nat → Prop} {w : World} {v : Value} {L : List (List Int)} (h : IRd rho U w (.ptr (.one (.list (.list I64)))) v (some L)) : In5 w v L := by
  obtain ⟨cs, e, v', rfl, b, off, ds, rfl, h1, h2⟩ := h
  obtain ⟨A, c, es, rfl, _, _, h3, h4⟩ := h1
  have hz : ∀ (c : List Value) (x : List Int), ICs rho U w (.list I64) c x → c.length = 1 := fun c x k => ICs.length k
  have q0 : ∀ w', Below w.heap.size w w' → w'.cell? ⟨b, off, none⟩ = some (.slice A L.length c) := fun w' hw => h2 w' (Ag.of_below hw U) 0 (by decide)
  refine ⟨b, off, A, c, e, World.block_lt_of_cell? w _ (q0 w (Below.refl _ _)), q0, fun u hu => ?_⟩
  obtain ⟨ab, ao, rfl, h5⟩ := h4 (by show 0 < L.length; omega)
  have hlen : es.length = L.length * 1 := h3.length hz
  have g := h3.get hz u hu
  obtain ⟨B, d, fs, e1, _, _, g1, g2⟩ := g
  have hlu : L[u] = L.getD u [] := by simp [List.getD_eq_getElem?_getD, hu]
  have q1 : es[u]? = some (.slice B (L.getD u []).length d) := by
    have : (es.drop (u * 1))[0]? = (List.take 1 (es.drop (u * 1)))[0]? := by rw [List.getElem?_take]; simp
    rw [e1, List.getElem?_drop] at this
    rw [← hlu]
    simpa using this
  have q2 : ∀ w', Below w.heap.size w w' → w'.cell? ⟨ab, ao + u, none⟩ = some (.slice B (L.getD u []).length d) := fun w' hw => (h5 w' (Ag.of_below hw U) u (by omega)).trans q1
  refine ⟨ab, ao, B, d, rfl, World.block_lt_of_cell? w _ (q2 w (Below.refl _ _)), q2, fun i hi => ?_⟩
  rw [hlu] at g1 g2
  obtain ⟨bb, bo, rfl, g3⟩ := g2 (by show 0 < (L.getD u []).length; omega)
  have hz' : ∀ (c : List Value) (x : Int), ICs rho U w I64 c x → c.length = 1 := fun c x k => ICs.length k
  have hl2 : fs.length = (L.getD u []).length * 1 := g1.length hz'
  have g4 : List.take 1 (fs.drop (i * 1)) = [Value.int .i64 ((L.getD u [])[i]'hi)] := g1.get hz' i hi
  have q3 : fs[i]? = some (.int .i64 ((L.getD u []).getD i 0)) := by
    have : (fs.drop (i * 1))[0]? = (List.take 1 (fs.drop (i * 1)))[0]? := by rw [List.getElem?_take]; simp
    rw [g4, List.getElem?_drop] at this
    rw [List.getD_eq_getElem?_getD, List.getElem?_eq_getElem hi]
    simpa using this
  have q4 : ∀ w', Below w.heap.size w w' → w'.cell? ⟨bb, bo + i, none⟩ = some (.int .i64 ((L.getD u []).getD i 0)) := fun w' hw => (g3 w' (Ag.of_below hw U) i (by omega)).trans q3
  exact ⟨bb, bo, rfl, World.block_lt_of_cell? w _ (q4 w (Below.refl _ _)), q4⟩
/-- The row of u, when i of its neighbours are looked at. -/
def indT (keep : List Bool) (L : List (List Int)) (u : Nat) : List Int := (L.getD u []).filter (fun x => kk keep (u : Int) && kk keep x)
def indI (keep : List Bool) (L : List (List Int)) (u i : Nat) (k : Nat) : List Int := if k < u then indT keep L k else if k = u then ((L.getD u []).take i).filter (fun x => kk keep (u : Int) && kk keep x) else []
def indU (keep : List Bool) (L : List (List Int)) (u : Nat) (k : Nat) : List Int := if k < u then indT keep L k else []
theorem indI_zero (keep : List Bool) (L : List (List Int)) (u : Nat) : indI keep L u 0 = indU keep L u := by
  funext k
  unfold indI indU
  simp
theorem indI_all (keep : List Bool) (L : List (List Int)) (u : Nat) : indI keep L u (L.getD u []).length = indU keep L (u + 1) := by
  funext k
  unfold indI indU
  by_cases h1 : k < u
  · simp only [if_pos h1, if_pos (show k < u + 1 by omega)]
  · by_cases h2 : k = u
    · subst h2
      simp only [if_neg h1, if_true, if_pos (Nat.lt_succ_self k), List.take_length]
      rfl
    · simp only [if_neg h1, if_neg h2, if_neg (show ¬ k < u + 1 by omega)]
theorem indI_no {keep : List Bool} {L : List (List Int)} {u i : Nat} (hi : i < (L.getD u []).length) (h : (kk keep (u : Int) && kk keep ((L.getD u []).getD i 0)) = false) : indI keep L u (i + 1) = indI keep L u i := by
  funext k
  unfold indI
  by_cases h1 : k < u
  · simp only [if_pos h1]
  · by_cases h2 : k = u
    · simp only [if_neg h1, if_pos h2]
      rw [take_snoc 0 _ _ hi, List.filter_append]
      simp only [List.filter_cons, h, Bool.false_eq_true, if_false, List.filter_nil, List.append_nil]
    · simp only [if_neg h1, if_neg h2]
theorem indI_yes {keep : List Bool} {L : List (List Int)} {u i : Nat} (hi : i < (L.getD u []).length) (h : (kk keep (u : Int) && kk keep ((L.getD u []).getD i 0)) = true) : indI keep L u (i + 1) = fun k => if k = u then indI keep L u i u ++ [(L.getD u []).getD i 0] else indI keep L u i k := by
  funext k
  unfold indI
  by_cases h1 : k < u
  · simp only [if_pos h1, if_neg (show ¬ k = u by omega)]
  · by_cases h2 : k = u
    · subst h2
      simp only [if_neg h1, if_true]
      rw [take_snoc 0 _ _ hi, List.filter_append]
      simp only [List.filter_cons, h, if_true, List.filter_nil]
    · simp only [if_neg h1, if_neg h2]
theorem below_grown {w w' : World} (h : Below w.heap.size w w') : w.grownBy w' none := ⟨h.os, h.tape, h.output, h.size, fun b hb _ => h.block b hb⟩
theorem kept5_at {U : Nat → Prop} {v1 : Value} {keep : List Bool} {x : Int} {w wr : World} (hU : ∀ b, U b → b < w.heap.size) (h : IRd rho U w (.list .bool) v1 keep) (hb : Below w.heap.size w wr) (hx : 0 ≤ x) :
    Calls Try.prog 119 #[v1, .int .i64 x] wr fun e w' => e = .returned (.bool (kk keep x)) ∧ Below w.heap.size w w' ∧ Below wr.heap.size wr w' := by
  refine (kept5_calls (U := U) wr (fun b hb' => Nat.lt_of_lt_of_le (hU b hb') hb.size) (h.tr (Tr.of (V := fun _ => False) (Ag.of_below hb _) (fun _ _ h => h.elim) (fun _ _ h => h))) hx).mono ?_
  rintro e w' ⟨he, hb'⟩
  exact ⟨he, below_then' hb hb', hb'⟩
set_option maxRecDepth 100000 in
set_option maxHeartbeats 8000000 in
theorem ind5_walk (w : World) {U : Nat → Prop} (hU : ∀ b, U b → b < w.heap.size) {v0 v1 : Value} {L : List (List Int)} {keep : List Bool} (h0 : IRd rho U w (.ptr (.one (.list (.list I64)))) v0 (some L)) (h1 : IRd rho U w (.list .bool) v1 keep) (hL : L.length ≤ 16777216) (hr : ∀ l ∈ L, l.length ≤ 16777216 ∧ ∀ x ∈ l, 0 ≤ x) :
    Calls Try.prog 55 #[v0, v1] w fun e w' => Below w.heap.size w w' ∧ ∃ hb tb base vs, e = .returned (.pointer (some ⟨hb, 0, none⟩)) ∧ w.heap.size ≤ hb ∧ w.heap.size ≤ tb ∧ tb < base ∧ w'.heap[hb]? = some (.cells #[.slice (some ⟨tb, 0, none⟩) L.length L.length] 126 (0, 0)) ∧ RowsAt w' base tb L.length (indT keep L) vs := by
  obtain ⟨gb, go, A, c, rfl, hgb, hg, hrows⟩ := in5 h0
  have H1 := Lib.hid h1
  have HR := Lib.hid hr
  have HG := Lib.hid hg
  have HW := Lib.hid hrows
  have HU := Lib.hid hU
  have q0 := hg w (Below.refl _ _)
  clear h0 h1 hr hg hrows hU
  obtain ⟨n, hn⟩ : ∃ n, n = L.length := ⟨_, rfl⟩
  go_enter Try.func55, Try.ntmps55
  go_wp2_with (at_make; refine mk_full (W := w) w.heap.size rfl (.tmp 14) (.tmp 14) 75 25 _ 24 rfl Try.underlying75 infoInts rfl (by decide) _ _ L.length rfl rfl rfl rfl (by omega) (Nat.le_refl _) ?_; intro w1 hown1 hgr1)
  have t1 : w.heap.size + 1 ≤ w1.heap.size := (hown1.lt _ rfl).2
  obtain ⟨hb, hhb⟩ : ∃ b, b = w1.heap.size := ⟨_, rfl⟩
  obtain ⟨W1, hW1⟩ : ∃ W, W = w1.alloc (.cells #[.slice (some ⟨w.heap.size, 0, none⟩) L.length L.length] 126) := ⟨_, rfl⟩
  rw [← hW1, ← hhb]
  have B1 : Hid (Below w.heap.size w W1) := by rw [hW1]; exact ((Below.refl _ _).grown hgr1 (Nat.le_refl _) (by simp)).alloc hgr1.size _
  have T1 : Hid (W1.heap[hb]? = some (.cells #[.slice (some ⟨w.heap.size, 0, none⟩) L.length L.length] 126 (0, 0))) := by rw [hW1, hhb]; exact heap_alloc_new _ _
  have R1 : Hid (OwnRows W1 (hb + 1) w.heap.size L.length (fun _ => [])) := by
    rw [hW1, hhb]
    exact (rows_start (base := w1.heap.size + 1) (by omega) hown1).kept (World.grownBy_alloc _ _ none) (by simp) (by simp)
  have s1 : hb + 1 ≤ W1.heap.size := by rw [hW1, hhb]; simp
  have thb : w.heap.size < hb := by omega
  clear hW1 hown1 hgr1 t1 hhb
  obtain ⟨i0, hi, hz0, hz1, hz2⟩ := info_parts infoInt
  have HI : Hid (Try.prog.info? 3 = some i0 ∧ i0.zero = some (.int .i64 0) ∧ i0.size = 1 ∧ i0.bytes = 8) := ⟨hi, hz0, hz1, hz2⟩
  clear hi hz0 hz1 hz2
  go_loopg [6] L.length (fun d s wx => ∃ u : Nat, d + u = L.length ∧ s = .int .i64 (u : Int) ∧ Hid (Below w.heap.size w wx ∧ wx.heap[hb]? = some (.cells #[.slice (some ⟨w.heap.size, 0, none⟩) L.length L.length] 126 (0, 0)) ∧ hb + 1 ≤ wx.heap.size ∧ OwnRows wx (hb + 1) w.heap.size L.length (indU keep L u)))
  case atStart =>
    refine ⟨0, rfl, rfl, B1.out, T1.out, s1, ?_⟩
    have e : indU keep L 0 = fun _ => [] := by funext k; simp [indU]
    rw [e]
    exact R1.out
  case round =>
    obtain ⟨u, hu, rfl, HX⟩ := hrel
    have HQ := Lib.hid hu
    clear hu
    have q0 := HG.out _ HX.out.1
    by_cases hlt : u < L.length
    · obtain ⟨ab, ao, B, d, rfl, hab, hrow, hcell⟩ := HW.out u hlt
      obtain ⟨R, hRR⟩ : ∃ R, R = L.getD u [] := ⟨_, rfl⟩
      have hl := HR.out (L.getD u []) (mem_getD [] L u hlt)
      rw [← hRR] at hrow hcell hl
      have q1 := hrow _ HX.out.1
      have HRR := Lib.hid hRR
      clear hRR
      have HRW := Lib.hid hrow
      have HCL := Lib.hid hcell
      clear hrow hcell
      have hl1 := hl.1
      have HL2 := Lib.hid hl.2
      clear hl
      go_wp2
      go_loopg [7] R.length (fun d s wx => ∃ i : Nat, d + i = R.length ∧ s = .int .i64 (i : Int) ∧ Hid (Below w.heap.size w wx ∧ wx.heap[hb]? = some (.cells #[.slice (some ⟨w.heap.size, 0, none⟩) L.length L.length] 126 (0, 0)) ∧ hb + 1 ≤ wx.heap.size ∧ OwnRows wx (hb + 1) w.heap.size L.length (indI keep L u i)))
      case atStart =>
        refine ⟨0, rfl, rfl, HX.out.1, HX.out.2.1, HX.out.2.2.1, ?_⟩
        rw [indI_zero]
        exact HX.out.2.2.2
      case round =>
        obtain ⟨i, hi, rfl, HY⟩ := hrel
        have HI2 := Lib.hid hi
        clear hi q0 q1
        have q0 := HG.out _ HY.out.1
        have q1 := HRW.out _ HY.out.1
        by_cases hli : i < R.length
        · obtain ⟨bb, bo, rfl, hbb, hx⟩ := HCL.out i hli
          have HXX := Lib.hid hx
          clear hx
          have x0 := HL2.out _ (mem_getD 0 _ i hli)
          obtain ⟨x, hx⟩ : ∃ x, x = R.getD i 0 := ⟨_, rfl⟩
          rw [← hx] at x0 HXX
          have HE := Lib.hid hx
          clear hx
          have q2 := HXX.out _ HY.out.1
          have hbz := HY.out.2.2.1
          cases ha : kk keep (u : Int)
          all_goals cases hkx : kk keep x
          · go_wp2_with (first
            | (go_at_call 119; (with_reducible refine (kept5_at (x := (u : Int)) HU.out H1.out HY.out.1 (Int.natCast_nonneg u)).mono ?_); rintro e w2 ⟨he, hb2, hb2'⟩; rw [ha] at he; subst he; have B2 := Lib.hid hb2; have C2 := Lib.hid hb2'; have q0 := HG.out w2 hb2; have q1 := HRW.out w2 hb2; have q2 := HXX.out w2 hb2; clear hb2 hb2')
            | (go_at_call 119; (with_reducible refine (kept5_at (x := x) HU.out H1.out B2.out x0).mono ?_); rintro e w3 ⟨he, hb3, hb3'⟩; rw [hkx] at he; subst he; have B3 := Lib.hid hb3; have C3 := Lib.hid (below_then' C2.out hb3'); have q0 := HG.out w3 hb3; have q1 := HRW.out w3 hb3; have q2 := HXX.out w3 hb3; clear hb3 hb3'))
            go_roundg (R.length - (i + 1))
            case measure => have := HI2.out; omega
            case rel =>
              have hs3 := C3.out.size
              refine ⟨i + 1, by have := HI2.out; omega, by go_num, B3.out, (C3.out.block hb (by omega)).trans HY.out.2.1, by omega, ?_⟩
              rw [indI_no (by rw [← HRR.out]; exact hli) (by rw [← HRR.out, ← HE.out, ha, hkx]; rfl)]
              exact HY.out.2.2.2.kept (below_grown C3.out) (by simp) (by simp)
          · go_wp2_with (first
            | (go_at_call 119; (with_reducible refine (kept5_at (x := (u : Int)) HU.out H1.out HY.out.1 (Int.natCast_nonneg u)).mono ?_); rintro e w2 ⟨he, hb2, hb2'⟩; rw [ha] at he; subst he; have B2 := Lib.hid hb2; have C2 := Lib.hid hb2'; have q0 := HG.out w2 hb2; have q1 := HRW.out w2 hb2; have q2 := HXX.out w2 hb2; clear hb2 hb2')
            | (go_at_call 119; (with_reducible refine (kept5_at (x := x) HU.out H1.out B2.out x0).mono ?_); rintro e w3 ⟨he, hb3, hb3'⟩; rw [hkx] at he; subst he; have B3 := Lib.hid hb3; have C3 := Lib.hid (below_then' C2.out hb3'); have q0 := HG.out w3 hb3; have q1 := HRW.out w3 hb3; have q2 := HXX.out w3 hb3; clear hb3 hb3'))
            go_roundg (R.length - (i + 1))
            case measure => have := HI2.out; omega
            case rel =>
              have hs3 := C3.out.size
              refine ⟨i + 1, by have := HI2.out; omega, by go_num, B3.out, (C3.out.block hb (by omega)).trans HY.out.2.1, by omega, ?_⟩
              rw [indI_no (by rw [← HRR.out]; exact hli) (by rw [← HRR.out, ← HE.out, ha, hkx]; rfl)]
              exact HY.out.2.2.2.kept (below_grown C3.out) (by simp) (by simp)
          · go_wp2_with (first
            | (go_at_call 119; (with_reducible refine (kept5_at (x := (u : Int)) HU.out H1.out HY.out.1 (Int.natCast_nonneg u)).mono ?_); rintro e w2 ⟨he, hb2, hb2'⟩; rw [ha] at he; subst he; have B2 := Lib.hid hb2; have C2 := Lib.hid hb2'; have q0 := HG.out w2 hb2; have q1 := HRW.out w2 hb2; have q2 := HXX.out w2 hb2; clear hb2 hb2')
            | (go_at_call 119; (with_reducible refine (kept5_at (x := x) HU.out H1.out B2.out x0).mono ?_); rintro e w3 ⟨he, hb3, hb3'⟩; rw [hkx] at he; subst he; have B3 := Lib.hid hb3; have C3 := Lib.hid (below_then' C2.out hb3'); have q0 := HG.out w3 hb3; have q1 := HRW.out w3 hb3; have q2 := HXX.out w3 hb3; clear hb3 hb3'))
            go_roundg (R.length - (i + 1))
            case measure => have := HI2.out; omega
            case rel =>
              have hs3 := C3.out.size
              refine ⟨i + 1, by have := HI2.out; omega, by go_num, B3.out, (C3.out.block hb (by omega)).trans HY.out.2.1, by omega, ?_⟩
              rw [indI_no (by rw [← HRR.out]; exact hli) (by rw [← HRR.out, ← HE.out, ha, hkx]; rfl)]
              exact HY.out.2.2.2.kept (below_grown C3.out) (by simp) (by simp)
          · go_wp2_with (first
            | (go_at_call 119; (with_reducible refine (kept5_at (x := (u : Int)) HU.out H1.out HY.out.1 (Int.natCast_nonneg u)).mono ?_); rintro e w2 ⟨he, hb2, hb2'⟩; rw [ha] at he; subst he; have B2 := Lib.hid hb2; have C2 := Lib.hid hb2'; have q0 := HG.out w2 hb2; have q1 := HRW.out w2 hb2; have q2 := HXX.out w2 hb2; clear hb2 hb2')
            | (go_at_call 119; (with_reducible refine (kept5_at (x := x) HU.out H1.out B2.out x0).mono ?_); rintro e w3 ⟨he, hb3, hb3'⟩; rw [hkx] at he; subst he; have B3 := Lib.hid hb3; have C3 := Lib.hid (below_then' C2.out hb3'); have q0 := HG.out w3 hb3; have q1 := HRW.out w3 hb3; have q2 := HXX.out w3 hb3; clear hb3 hb3'))
            have G3 : Hid (w3.heap[hb]? = some (.cells #[.slice (some ⟨w.heap.size, 0, none⟩) L.length L.length] 126 (0, 0))) := (C3.out.block hb (by omega)).trans HY.out.2.1
            obtain ⟨vs, R3'⟩ := HY.out.2.2.2.kept (below_grown C3.out) (by simp) (by simp)
            have R3 := Lib.hid R3'
            clear R3'
            have b7 : hb + 1 ≤ w3.heap.size := Nat.le_trans hbz C3.out.size
            obtain ⟨T0, hT0⟩ : ∃ T0, T0 = indI keep L u i := ⟨_, rfl⟩
            rw [← hT0] at R3
            have HT0 := Lib.hid hT0
            have hln : (T0 u).length ≤ 16777216 := by
              rw [hT0]
              unfold indI
              simp only [if_neg (Nat.lt_irrefl u), if_true]
              rw [← HRR.out]
              have := List.length_filter_le (fun x => kk keep (u : Int) && kk keep x) (R.take i)
              have := List.length_take_le i R
              omega
            clear hT0
            obtain ⟨x1, x1x, x1o⟩ := R3.out.2.2.1 u hlt
            have x1b := x1o.lt
            have qg : some gb ≠ x1.ownBlock := fun e => by have := x1b _ e.symm; omega
            have qa : some ab ≠ x1.ownBlock := fun e => by have := x1b _ e.symm; omega
            have qb : some bb ≠ x1.ownBlock := fun e => by have := x1b _ e.symm; omega
            have qh : some hb ≠ x1.ownBlock := fun e => by have := x1b _ e.symm; omega
            have qt : some w.heap.size ≠ x1.ownBlock := fun e => by have := x1b _ e.symm; omega
            have hsz := B3.out.size
            have k0 : w3.cell? ⟨hb, 0, none⟩ = some (.slice (some ⟨w.heap.size, 0, none⟩) L.length L.length) := cell_of G3.out 0
            have t0 : w3.cell? ⟨w.heap.size, u, none⟩ = some x1 := by rw [cell_of R3.out.2.1 u]; simpa using x1x
            have f0 := free_of R3.out.2.1 u
            have wlg : gb < w3.heap.size := by omega
            have wla : ab < w3.heap.size := by omega
            have wlb : bb < w3.heap.size := by omega
            have wlh : hb < w3.heap.size := by omega
            have wlt : w.heap.size < w3.heap.size := by omega
            have XO := Lib.hid x1o
            have XX := Lib.hid x1x
            have QG := Lib.hid qg
            have QA := Lib.hid qa
            have QB := Lib.hid qb
            have QH := Lib.hid qh
            have QT := Lib.hid qt
            clear x1o x1x x1b qg qa qb qh qt
            obtain ⟨W5, hW5⟩ : ∃ W, W = w3 := ⟨_, rfl⟩
            rw [← hW5] at k0 t0 f0 q0 q1 q2 wlg wla wlb wlh wlt R3 G3 XO B3 b7 C3 ⊢
            clear hW5
            refine region_T (by kernel_rfl) (fun w' => w'.cell? ⟨gb, go, none⟩ = some (.slice (some ⟨ab, ao, none⟩) L.length c) ∧ w'.cell? ⟨ab, ao + u, none⟩ = some (.slice (some ⟨bb, bo, none⟩) R.length d) ∧ w'.cell? ⟨bb, bo + i, none⟩ = some (.int .i64 x) ∧ w'.cell? ⟨hb, 0, none⟩ = some (.slice (some ⟨w.heap.size, 0, none⟩) L.length L.length) ∧ w'.cell? ⟨w.heap.size, u, none⟩ = some x1) 25 ⟨q0, q1, q2, k0, t0⟩ (fun HS => ?_)
            change anyT _ _ _ _ _ _ 26 _ _ _
            refine takeT (i := 0) (v := ?_) rfl rfl (by kernel_rfl) (fun _ _ _ h => h) rfl ?_ HS ?_
            rotate_left
            · intro w' hS'
              obtain ⟨s0, s1, s2, s3, s4⟩ := hS'
              go_simp
              rfl
            rotate_left
            go_frame
            refine takeT (i := 1) (v := ?_) rfl rfl (by kernel_rfl) (fun _ _ _ h => h) rfl ?_ HS ?_
            rotate_left
            · intro w' hS'
              obtain ⟨s0, s1, s2, s3, s4⟩ := hS'
              go_simp
              rfl
            rotate_left
            go_frame
            refine takeT (i := 2) (v := ?_) rfl rfl (by kernel_rfl) (fun _ _ _ h => h) rfl ?_ HS ?_
            rotate_left
            · intro w' hS'
              obtain ⟨s0, s1, s2, s3, s4⟩ := hS'
              go_simp
              rfl
            rotate_left
            go_frame
            refine takeT (i := 3) (v := ?_) rfl rfl (by kernel_rfl) (fun _ _ _ h => h) rfl ?_ HS ?_
            rotate_left
            · intro w' hS'
              obtain ⟨s0, s1, s2, s3, s4⟩ := hS'
              go_simp
              rfl
            rotate_left
            go_frame
            refine takeT (i := 4) (v := ?_) rfl rfl (by kernel_rfl) (fun _ _ _ h => h) rfl ?_ HS ?_
            rotate_left
            · intro w' hS'
              obtain ⟨s0, s1, s2, s3, s4⟩ := hS'
              go_simp
              rfl
            rotate_left
            go_frame
            refine takeT (i := 5) (v := ?_) rfl rfl (by kernel_rfl) (fun _ _ _ h => h) rfl ?_ HS ?_
            rotate_left
            · intro w' hS'
              obtain ⟨s0, s1, s2, s3, s4⟩ := hS'
              go_simp
              rfl
            rotate_left
            go_frame
            refine takeT (i := 6) (v := ?_) rfl rfl (by kernel_rfl) (fun _ _ _ h => h) rfl ?_ HS ?_
            rotate_left
            · intro w' hS'
              obtain ⟨s0, s1, s2, s3, s4⟩ := hS'
              go_simp
              rfl
            rotate_left
            go_frame
            refine takeT (i := 7) (v := ?_) rfl rfl (by kernel_rfl) (fun _ _ _ h => h) rfl ?_ HS ?_
            rotate_left
            · intro w' hS'
              obtain ⟨s0, s1, s2, s3, s4⟩ := hS'
              go_simp
              rfl
            rotate_left
            go_frame
            refine takeT (i := 8) (v := ?_) rfl rfl (by kernel_rfl) (fun _ _ _ h => h) rfl ?_ HS ?_
            rotate_left
            · intro w' hS'
              obtain ⟨s0, s1, s2, s3, s4⟩ := hS'
              go_simp
              rfl
            rotate_left
            go_frame
            refine takeT (i := 9) (v := ?_) rfl rfl (by kernel_rfl) (fun _ _ _ h => h) rfl ?_ HS ?_
            rotate_left
            · intro w' hS'
              obtain ⟨s0, s1, s2, s3, s4⟩ := hS'
              go_simp
              rfl
            rotate_left
            go_frame
            refine takeT (i := 10) (v := ?_) rfl rfl (by kernel_rfl) (fun _ _ _ h => h) rfl ?_ HS ?_
            rotate_left
            · intro w' hS'
              obtain ⟨s0, s1, s2, s3, s4⟩ := hS'
              go_simp
              rfl
            rotate_left
            go_frame
            refine takeT (i := 11) (v := ?_) rfl rfl (by kernel_rfl) (fun _ _ _ h => h) rfl ?_ HS ?_
            rotate_left
            · intro w' hS'
              obtain ⟨s0, s1, s2, s3, s4⟩ := hS'
              go_simp
              rfl
            rotate_left
            go_frame
            refine takeT (i := 12) (v := ?_) rfl rfl (by kernel_rfl) (fun _ _ _ h => h) rfl ?_ HS ?_
            rotate_left
            · intro w' hS'
              obtain ⟨s0, s1, s2, s3, s4⟩ := hS'
              go_simp
              rfl
            rotate_left
            go_frame
            refine takeT (i := 13) (v := ?_) rfl rfl (by kernel_rfl) (fun _ _ _ h => h) rfl ?_ HS ?_
            rotate_left
            · intro w' hS'
              obtain ⟨s0, s1, s2, s3, s4⟩ := hS'
              go_simp
              rfl
            rotate_left
            go_frame
            refine takeT (i := 14) (v := ?_) rfl rfl (by kernel_rfl) (fun _ _ _ h => h) rfl ?_ HS ?_
            rotate_left
            · intro w' hS'
              obtain ⟨s0, s1, s2, s3, s4⟩ := hS'
              go_simp
              rfl
            rotate_left
            go_frame
            refine takeT (i := 15) (v := ?_) rfl rfl (by kernel_rfl) (fun _ _ _ h => h) rfl ?_ HS ?_
            rotate_left
            · intro w' hS'
              obtain ⟨s0, s1, s2, s3, s4⟩ := hS'
              go_simp
              rfl
            rotate_left
            go_frame
            refine takeT (i := 16) (v := ?_) rfl rfl (by kernel_rfl) (fun _ _ _ h => h) rfl ?_ HS ?_
            rotate_left
            · intro w' hS'
              obtain ⟨s0, s1, s2, s3, s4⟩ := hS'
              go_simp
              rfl
            rotate_left
            go_frame
            refine takeT (i := 17) (v := ?_) rfl rfl (by kernel_rfl) (fun _ _ _ h => h) rfl ?_ HS ?_
            rotate_left
            · intro w' hS'
              obtain ⟨s0, s1, s2, s3, s4⟩ := hS'
              go_simp
              rfl
            rotate_left
            go_frame
            refine takeT (i := 18) (v := ?_) rfl rfl (by kernel_rfl) (fun _ _ _ h => h) rfl ?_ HS ?_
            rotate_left
            · intro w' hS'
              obtain ⟨s0, s1, s2, s3, s4⟩ := hS'
              go_simp
              rfl
            rotate_left
            go_frame
            refine takeT (i := 19) (v := ?_) rfl rfl (by kernel_rfl) (fun _ _ _ h => h) rfl ?_ HS ?_
            rotate_left
            · intro w' hS'
              obtain ⟨s0, s1, s2, s3, s4⟩ := hS'
              go_simp
              rfl
            rotate_left
            go_frame
            refine takeT (i := 20) (v := ?_) rfl rfl (by kernel_rfl) (fun _ _ _ h => h) rfl ?_ HS ?_
            rotate_left
            · intro w' hS'
              obtain ⟨s0, s1, s2, s3, s4⟩ := hS'
              go_simp
              rfl
            rotate_left
            go_frame
            refine takeT (i := 21) (v := ?_) rfl rfl (by kernel_rfl) (fun _ _ _ h => h) rfl ?_ HS ?_
            rotate_left
            · intro w' hS'
              obtain ⟨s0, s1, s2, s3, s4⟩ := hS'
              go_simp
              rfl
            rotate_left
            go_frame
            refine oneT (i := 22) rfl (by kernel_rfl) (fun K hK => ?_)
            go_simp
            refine hK.out _ _ (fun _ => ?_) ?_
            · exact ⟨(World.cell?_of_block (w := W5) (Below.heap_alloc W5 _ _ wlg)).trans q0, (World.cell?_of_block (w := W5) (Below.heap_alloc W5 _ _ wla)).trans q1, (World.cell?_of_block (w := W5) (Below.heap_alloc W5 _ _ wlb)).trans q2, (World.cell?_of_block (w := W5) (Below.heap_alloc W5 _ _ wlh)).trans k0, (World.cell?_of_block (w := W5) (Below.heap_alloc W5 _ _ wlt)).trans t0⟩
            clear hK K
            refine oneT (i := 23) rfl (by kernel_rfl) (fun K hK => ?_)
            refine step_append_lies _ (by rfl) (.tmp 69) (.tmp 80) 25 (by rfl) (hb + 1) 3 i0 (.int .i64 0) 1 8 Try.underlying25 HI.out.1 HI.out.2.1 HI.out.2.2.1 HI.out.2.2.2 rfl (by decide) x1 _ _ (by rfl) (XO.out.alloc _).drew ⟨W5.heap.size, 0, none⟩ 1 1 [.int .i64 x] (by rfl) rfl (World.news_of_block (cs := #[.int .i64 x]) (t := 3) (fr := (0, 0)) (heap_alloc_new W5 _)) (by simp [Value.oneCell']) (by decide) (by unfold maxLen; omega) (by omega) (by simp; omega) (W5.heap.size + 1) (by simp) ?_
            intro g0 cap0 V0 hown0 hg0 hat0 hlt0
            have p0' := far_cell hg0 q0 QG.out
            have p1' := far_cell hg0 q1 QA.out
            have p2' := far_cell hg0 q2 QB.out
            have k0' := far_cell hg0 k0 QH.out
            have t0' := far_cell hg0 t0 QT.out
            have f0' := (far_frozen hg0 (a := ⟨w.heap.size, u, none⟩) wlt QT.out).trans f0
            refine hK.out _ _ (fun _ => ⟨p0', p1', p2', k0', t0'⟩) ?_
            clear hK K
            have HS0 : (fun w' : World => w'.cell? ⟨gb, go, none⟩ = some (.slice (some ⟨ab, ao, none⟩) L.length c) ∧ w'.cell? ⟨ab, ao + u, none⟩ = some (.slice (some ⟨bb, bo, none⟩) R.length d) ∧ w'.cell? ⟨bb, bo + i, none⟩ = some (.int .i64 x) ∧ w'.cell? ⟨hb, 0, none⟩ = some (.slice (some ⟨w.heap.size, 0, none⟩) L.length L.length) ∧ w'.cell? ⟨w.heap.size, u, none⟩ = some x1) V0 := ⟨p0', p1', p2', k0', t0'⟩
            go_frame
            refine takeT (i := 24) (v := ?_) rfl rfl (by kernel_rfl) (fun _ _ _ h => h) rfl ?_ HS0 ?_
            rotate_left
            · intro w' hS'
              obtain ⟨s0, s1, s2, s3, s4⟩ := hS'
              go_simp
              rfl
            rotate_left
            go_frame
            refine oneT (i := 25) rfl (by kernel_rfl) (fun K hK => ?_)
            go_simp
            refine hK.out _ _ (fun h => absurd rfl h) ?_
            clear hK K
            refine doneT (by kernel_rfl) ?_ 0
            obtain ⟨W7, hW7⟩ : ∃ W, W = V0.setCell ⟨w.heap.size, u, none⟩ (.slice (some ⟨g0, 0, none⟩) ((T0 u).length + 1) cap0) := ⟨_, rfl⟩
            rw [← hW7]
            have R7 := Lib.hid (R3.out.app (y := x) hlt XX.out (by omega) (by omega) hg0 hown0 hat0)
            rw [← hW7] at R7
            have G7 : Hid (W7.heap[hb]? = some (.cells #[.slice (some ⟨w.heap.size, 0, none⟩) L.length L.length] 126 (0, 0))) := ((by rw [hW7]; exact Below.heap_setCell _ _ _ _ (by simp; omega)) : W7.heap[hb]? = V0.heap[hb]?).trans ((far_block hg0 wlh QH.out).trans G3.out)
            have hvs : W5.heap.size ≤ V0.heap.size := by have := hg0.size; simp at this; omega
            have B7 : Hid (Below w.heap.size w W7) := by
              rw [hW7]
              exact ((((B3.out.alloc B3.out.size _).drew).grown hg0 (by simp; omega) (fun c hc => by have := (XO.out.lt c hc).1; omega))).setCell (by simp) _
            have hsz7 : W5.heap.size ≤ W7.heap.size := by rw [hW7, size_setCell]; exact hvs
            clear hW7 q0 q1 q2 k0 t0 f0 p0' p1' p2' k0' t0' f0' hvs hg0 hown0 hat0 hlt0 HS HS0
            go_wp2
            go_roundg (R.length - (i + 1))
            case measure => have := HI2.out; omega
            case rel =>
              refine ⟨i + 1, by have := HI2.out; omega, by go_num, B7.out, G7.out, by omega, ?_⟩
              rw [indI_yes (by rw [← HRR.out]; exact hli) (by rw [← HRR.out, ← HE.out, ha, hkx]; rfl), ← HRR.out, ← HE.out, ← HT0.out]
              exact ⟨_, R7.out⟩
        · have hil : i = R.length := by have := HI2.out; omega
          rw [hil, HRR.out, indI_all] at HY
          go_wp2
          go_roundg (L.length - (u + 1))
          case measure => have := HQ.out; omega
          case rel => exact ⟨u + 1, by have := HQ.out; omega, by go_num, HY.out⟩
    · have hun : u = L.length := by have := HQ.out; omega
      rw [hun] at HX
      go_wp2
      go_ret
      obtain ⟨hb1, hb2, hb3, vs, hR⟩ := HX.out
      refine ⟨hb1, hb, w.heap.size, hb + 1, vs, rfl, by omega, Nat.le_refl _, by omega, hb2, hR.1, hR.2.1, fun k hk => ?_, hR.2.2.2⟩
      have h := hR.2.2.1 k hk
      simp only [indU, if_pos hk] at h
      exact h
theorem rows_els {U : Nat → Prop} {w : World} {tb base n : Nat} {T : Nat → List Int} {vs : List Value} (h : RowsAt w base tb n T vs) (hn : n ≤ 16777216) (hU : ∀ b, U b → b < tb) (htb : tb < base) : IRd rho U w (.list (.list I64)) (.slice (some ⟨tb, 0, none⟩) n n) ((List.range n).map T) := by
  obtain ⟨h1, h2, h3, _⟩ := h
  have ho : w.ownsRow tb 25 1 (.slice (some ⟨tb, 0, none⟩) n n) n vs := ⟨by simp [h1], .inr ⟨tb, n, vs.toArray, rfl, Nat.le_refl _, h2, Nat.le_refl _, by unfold maxLen; omega, by simp [h1], by simp [← h1]⟩⟩
  refine row_out (t := .list I64) ho (by simp) ?_ hU
  have key : ∀ (us : List Value) (L : List (List Int)), us.length = L.length → (∀ (i : Nat) (x : Value) (y : List Int), us[i]? = some x → L[i]? = some y → ∃ n, n = y.length ∧ w.ownsRow base 3 1 x n (y.map (Value.int .i64))) → Els (ICs rho U w (.list I64)) us L := by
    intro us L
    induction L generalizing us with
    | nil => intro e _; cases us with
      | nil => rfl
      | cons x us => simp at e
    | cons y L ih => intro e hh; cases us with
      | nil => simp at e
      | cons x us =>
        refine ⟨[x], us, rfl, ?_, ih us (by simpa using e) (fun i p q a b => hh (i + 1) p q (by simpa using a) (by simpa using b))⟩
        obtain ⟨n, hn, h4⟩ := hh 0 x y rfl rfl
        have h5 := ints_out (ρ := rho) (U := U) h4 hn (fun b hb => Nat.lt_trans (hU b hb) htb)
        obtain ⟨cs, e, h6⟩ := h5
        obtain ⟨A, c, ds, rfl, h7⟩ := h6
        exact ⟨A, c, ds, by rw [e]; rfl, h7⟩
  refine key vs _ (by simp [h1]) (fun i x y hx hy => ?_)
  obtain ⟨hi, hxx⟩ := List.getElem?_eq_some_iff.1 hx
  obtain ⟨x', e, hxo⟩ := h3 i (by omega)
  rw [hx] at e
  cases e
  have hy' : y = T i := by
    rw [List.getElem?_map, List.getElem?_range (by omega)] at hy
    simpa using hy.symm
  subst hy'
  exact ⟨_, rfl, hxo⟩
/-- The induced lists. -/
def indL (keep : List Bool) (L : List (List Int)) : List (List Int) := (List.range L.length).map (indT keep L)
def indOk (L : List (List Int)) : Bool := decide (L.length ≤ 16777216) && L.all (fun l => decide (l.length ≤ 16777216) && l.all (fun x => decide (0 ≤ x)))
namespace Ind5
abbrev Rf : T := .one (.list (.list I64))
abbrev ps : List PM := [.val (.ptr Rf), .val (.list .bool)]
abbrev rs : List PM := [.val (.ptr Rf)]
noncomputable def pre (g : Option (List (List Int))) (k : List Bool) : Bool := g.isSome && indOk (g.getD [])
noncomputable def fn (g : Option (List (List Int))) (k : List Bool) : (Option (List (List Int))) × Unit := (some (indL k (g.getD [])), ())
noncomputable def sig : Sig := ⟨ps, rs, fun d => match d with
  | (g, k, _) => pre g k, fun d => match d with
  | (g, k, _) => fn g k, true⟩
theorem sound : Sound Try.prog rho 55 sig := sound21 (t0 := .ptr Rf) (r0 := .ptr Rf) (fun (g : Option (List (List Int))) (k : List Bool) hp w U U' v0 v1 hU h0 h1 => by
  have hp := (show (g.isSome && indOk (g.getD [])) = true from hp)
  cases g with
  | none => simp at hp
  | some L =>
    simp only [indOk, Option.isSome_some, Option.getD_some, Bool.true_and, Bool.and_eq_true, decide_eq_true_eq, List.all_eq_true] at hp
    have tr : Tr U w (fun b => U b ∧ b < w.heap.size) w := fun _ k => k.mono (fun b _ h => h.1)
    refine (ind5_walk w (fun b hb => hb.2) (h0.tr tr) (h1.tr tr) hp.1 (fun l hl => hp.2 l hl)).mono ?_
    rintro e w' ⟨hbl, hb, tb, base, vs, rfl, g1, g2, g3, g4, hR⟩
    have hrow := rows_els hR hp.1 (U := U') (fun b hb => by have := hU b hb; omega) g3
    obtain ⟨cs, e1, e2⟩ := hrow
    refine ⟨hbl, _, rfl, [_], rfl, _, rfl, hb, 0, cs, rfl, e2, fun w'' hw j hj => ?_⟩
    obtain ⟨A, c, ds, rfl, _⟩ := e2
    obtain rfl : j = 0 := by
      have : j < 1 := hj
      omega
    have e3 : w''.heap[hb]? = w'.heap[hb]? := hw.block hb (Array.getElem?_eq_some_iff.1 g4).1 (fun h => by have := hU _ h; omega)
    rw [cell_of (e3.trans g4)]
    exact congrArg some e1)
theorem enters : Enters Try.prog 55 := enters_of (fn := Try.f55) (by kernel_rfl) (by kernel_rfl) (by kernel_rfl)
theorem okR : Enters Try.prog 55 ∧ Sound Try.prog rho 55 sig := ⟨enters, sound⟩
end Ind5
end Go.Proofs.Ythbojpaghbbnnaa.Z
