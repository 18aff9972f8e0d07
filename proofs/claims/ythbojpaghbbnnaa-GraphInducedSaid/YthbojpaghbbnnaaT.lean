/- Package graph: Lists. -/
import Derived.Test.YthbojpaghbbnnaaS
namespace Go.Proofs.Ythbojpaghbbnnaa
open Go.RowKit Go.WideMaps Go.Maps
set_option linter.unusedVariables false
set_option linter.unusedSimpArgs false

theorem infoList : (Try.prog.info? 131).map (fun i => (i.zero, i.size, i.bytes)) = some (some (.agg #[.int .i64 0, .slice none 0 0]), 2, 32) := by kernel_rfl
def mixL (L : List (Int × List Int)) (vs : List Value) : List Value := (List.zipWith (fun p x => [Value.int .i64 p.1, x]) L vs).flatten
theorem mixL_length : ∀ (L : List (Int × List Int)) (vs : List Value), vs.length = L.length → (mixL L vs).length = L.length * 2
  | [], vs, h => by simp [mixL]
  | p :: L, [], h => by simp at h
  | p :: L, x :: vs, h => by
    have ih := mixL_length L vs (by simpa using h)
    unfold mixL at *
    simp only [List.zipWith_cons_cons, List.flatten_cons, List.length_append, ih, List.length_cons, List.length_nil]
    omega
theorem mixL_snoc (L : List (Int × List Int)) (vs : List Value) (h : vs.length = L.length) (p : Int × List Int) (x : Value) : mixL (L ++ [p]) (vs ++ [x]) = mixL L vs ++ [.int .i64 p.1, x] := by
  unfold mixL
  rw [List.zipWith_append h.symm]
  simp
theorem mixL_get : ∀ (L : List (Int × List Int)) (vs : List Value) (k : Nat) (p : Int × List Int) (x : Value), L[k]? = some p → vs[k]? = some x → (mixL L vs)[k * 2]? = some (.int .i64 p.1) ∧ (mixL L vs)[k * 2 + 1]? = some x
  | [], vs, k, p, x, h, _ => by simp at h
  | q :: L, [], k, p, x, _, h => by simp at h
  | q :: L, y :: vs, 0, p, x, h1, h2 => by
    obtain rfl : q = p := by simpa using h1
    obtain rfl : y = x := by simpa using h2
    simp [mixL]
  | q :: L, y :: vs, k + 1, p, x, h1, h2 => by
    have ih := mixL_get L vs k p x (by simpa using h1) (by simpa using h2)
    unfold mixL at *
    simp only [List.zipWith_cons_cons, List.flatten_cons]
    rw [show (k + 1) * 2 = k * 2 + 2 from by omega]
    constructor
    · rw [List.getElem?_append_right (by simp)]; simpa using ih.1
    · rw [List.getElem?_append_right (by simp)]; simpa using ih.2
/-- A slice of lists that is read. -/
def Lsts (w : World) (lo hi : Nat) (v : Value) (L : List (Int × List Int)) : Prop :=
  ∃ vs : List Value, vs.length = L.length ∧ Sl w lo hi 2 v L.length (mixL L vs) ∧ ∀ (i : Nat) (p : Int × List Int) (x : Value), L[i]? = some p → vs[i]? = some x → Ints w lo hi x p.2
theorem Lsts.frame {w w' : World} {lo hi : Nat} {v : Value} {L : List (Int × List Int)} (h : Lsts w lo hi v L) (s : Same lo hi w w') : Lsts w' lo hi v L := by
  obtain ⟨vs, h1, h2, h3⟩ := h
  exact ⟨vs, h1, h2.frame s, fun i p x hp hx => (h3 i p x hp hx).frame s⟩
theorem Lsts.at_ {w w' : World} {lo hi : Nat} {v : Value} {L : List (Int × List Int)} (h : Lsts w lo hi v L) (b : Below w.heap.size w w') : Lsts w' lo hi v L := by
  have := h
  obtain ⟨vs, h1, h2, h3⟩ := this
  exact h.frame (same_below b h2.le)
theorem Lsts.mono {w : World} {lo hi lo' hi' : Nat} {v : Value} {L : List (Int × List Int)} (h : Lsts w lo hi v L) (h1 : lo' ≤ lo) (h2 : hi ≤ hi') (h3 : hi' ≤ w.heap.size) : Lsts w lo' hi' v L := by
  obtain ⟨vs, a, b, c⟩ := h
  exact ⟨vs, a, b.mono h1 h2 h3, fun i p x hp hx => (c i p x hp hx).mono h1 h2 h3⟩
/-- .. that the call owns, each list at a block of its own kind. -/
def OwnL (w : World) (base : Nat) (v : Value) (L : List (Int × List Int)) : Prop :=
  ∃ vs : List Value, vs.length = L.length ∧ w.ownsRow base 131 2 v L.length (mixL L vs) ∧ ∀ (i : Nat) (p : Int × List Int) (x : Value), L[i]? = some p → vs[i]? = some x → w.ownsRow base 3 1 x p.2.length (p.2.map (Value.int .i64))
theorem OwnL.lsts {w : World} {base : Nat} {v : Value} {L : List (Int × List Int)} (h : OwnL w base v L) : Lsts w base w.heap.size v L := by
  obtain ⟨vs, h1, h2, h3⟩ := h
  exact ⟨vs, h1, sl_own h2, fun i p x hp hx => Sl1.own (h3 i p x hp hx)⟩
theorem OwnL.nil (w : World) (base : Nat) : OwnL w base (.slice none 0 0) [] := ⟨[], rfl, World.ownsRow_nil _ _ _ _, fun i p x h => by simp at h⟩
theorem OwnL.snoc {W w1 : World} {base : Nat} {v v1 y : Value} {L : List (Int × List Int)} {vs : List Value} {p : Int × List Int} (h1 : vs.length = L.length) (h2 : W.ownsRow base 131 2 v L.length (mixL L vs))
    (h3 : ∀ (i : Nat) (p : Int × List Int) (x : Value), L[i]? = some p → vs[i]? = some x → W.ownsRow base 3 1 x p.2.length (p.2.map (Value.int .i64)))
    (hy : W.ownsRow base 3 1 y p.2.length (p.2.map (Value.int .i64))) (hown : w1.ownsRow base 131 2 v1 (L.length + 1) (mixL L vs ++ [.int .i64 p.1, y])) (hg : W.grownBy w1 v.ownBlock) : OwnL w1 base v1 (L ++ [p]) := by
  refine ⟨vs ++ [y], by simp [h1], ?_, fun i q x hq hx => ?_⟩
  · rw [mixL_snoc L vs h1, List.length_append]
    exact hown
  · by_cases hi : i < L.length
    · rw [List.getElem?_append_left hi] at hq
      rw [List.getElem?_append_left (by omega)] at hx
      have := h3 i q x hq hx
      exact this.kept hg (own_ne_type this h2 (by decide))
    · have hi' : i = L.length := by
        have := (List.getElem?_eq_some_iff.1 hq).1
        simp at this
        omega
      subst hi'
      rw [List.getElem?_append_right (Nat.le_refl _)] at hq
      rw [List.getElem?_append_right (by omega), h1] at hx
      simp at hq hx
      subst hq
      subst hx
      exact hy.kept hg (own_ne_type hy h2 (by decide))
/-- Of the vertices from a to b - 1 that have a neighbour their lists. -/
def Gr.lists (G : Gr) (a b : Int) : List (Nat × List Nat) := ((seg G.n a b).filter (fun u => decide (0 < (G.nb u).length))).map (fun u => (u, G.nb u))
def upL (l : List (Nat × List Nat)) : List (Int × List Int) := l.map (fun p => ((p.1 : Int), up p.2))
def listsTo (G : Gr) (a : Int) (k : Nat) : List (Nat × List Nat) := (((List.range k).map (segF a + ·)).filter (fun u => decide (0 < (G.nb u).length))).map (fun u => (u, G.nb u))
theorem listsTo_succ (G : Gr) (a : Int) (k : Nat) : listsTo G a (k + 1) = listsTo G a k ++ if 0 < (G.nb (segF a + k)).length then [(segF a + k, G.nb (segF a + k))] else [] := by
  unfold listsTo
  rw [List.range_succ, List.map_append, List.filter_append, List.map_append]
  congr 1
  by_cases h : 0 < (G.nb (segF a + k)).length <;> simp [h]
theorem listsTo_le (G : Gr) (a : Int) (k : Nat) : (listsTo G a k).length ≤ k := by
  unfold listsTo
  rw [List.length_map]
  have := List.length_filter_le (fun u => decide (0 < (G.nb u).length)) ((List.range k).map (segF a + ·))
  simpa using this
set_option maxRecDepth 100000 in
set_option maxHeartbeats 4000000 in
theorem Lists_any (w : World) {lo hi : Nat} {g : Value} {G : Gr} (h : PG w lo hi g G) (a b' : Int) (ha : Wf a) (hb : Wf b') :
    Calls Try.prog 63 #[g, .int .i64 a, .int .i64 b'] w fun e w' => Below w.heap.size w w' ∧ ∃ x, e = .returned x ∧ OwnL w' w.heap.size x (upL (G.lists a b')) := by
  obtain ⟨b, m, t, c, E, rfl, hc⟩ := h.open_
  have HC := Lib.hid hc
  have hsm := hc.ok.small
  clear hc h
  have hsL := segL_le G.n a b'
  obtain ⟨f, hf⟩ : ∃ f, f = segF a := ⟨_, rfl⟩
  obtain ⟨L, hL⟩ : ∃ L, L = segL G.n a b' := ⟨_, rfl⟩
  have hfa : (f : Int) = max a 0 := by rw [hf]; unfold segF; omega
  have hLa : (L : Int) = max 0 (min b' G.n - max a 0) := by rw [hL]; unfold segL; omega
  have HF := Lib.hid hf
  have HL := Lib.hid hL
  have HFA := Lib.hid hfa
  have HLA := Lib.hid hLa
  have hL4 : L ≤ 16777216 := by omega
  have hf0 : (f : Int) ≤ 9223372036854775807 := by unfold Wf at *; omega
  clear hsL hf hL hfa hLa
  go_enter Try.func63, Try.ntmps63
  go_wp2
  go_loopg [7, 8] L (fun d v s wr => ∃ k : Nat, d + k = L ∧ s = .int .i64 ((f + k : Nat) : Int) ∧ Hid (Below w.heap.size w wr ∧ OwnL wr w.heap.size v (upL (listsTo G a k))))
  case atStart => exact ⟨0, rfl, by rw [← HFA.out]; rfl, Below.refl _ _, OwnL.nil _ _⟩
  case round =>
    obtain ⟨k, hk, rfl, HI⟩ := hrel
    have HK := Lib.hid hk
    clear hk
    have c0 := (HC.out.at_ HI.out.1).c0
    by_cases hlt : k < L
    · have hu : f + k < G.n := by have := HLA.out; have := HFA.out; omega
      have hub : ((f + k : Nat) : Int) < b' := by have := HLA.out; have := HFA.out; omega
      have c2 := (HC.out.at_ HI.out.1).c2
      obtain ⟨bb, off, x, rfl, _, hbb, g0, hx⟩ := HC.out.rows.get (f + k) hu
      have g1 := (HI.out.1.cell (p := ⟨bb, off + (f + k), none⟩) (Nat.lt_of_lt_of_le hbb HC.out.le)).trans g0
      obtain ⟨hxl, A, cc, rfl⟩ := hx.form
      rw [up_length] at g1 hxl
      have HX := Lib.hid hx
      obtain ⟨u, hu0⟩ : ∃ u, u = f + k := ⟨_, rfl⟩
      have HU := Lib.hid hu0
      rw [← hu0] at hub hu g1 HX hxl ⊢
      clear hx g0 hu0
      have hd : decide ((u : Int) < min b' (G.n : Int)) = true := by simp; omega
      have hsu : segF a + k = u := by rw [HU.out, HF.out]
      have hst : upL (listsTo G a (k + 1)) = upL (listsTo G a k) ++ if 0 < (G.nb u).length then [((u : Int), up (G.nb u))] else [] := by
        rw [listsTo_succ, hsu]
        by_cases h0 : 0 < (G.nb u).length <;> simp [h0, upL]
      have HST := Lib.hid hst
      have hnl := G.nb_length_le u
      clear hst hsu
      by_cases h0 : 0 < (G.nb u).length
      · obtain ⟨vs, l1, l2, l3⟩ := HI.out.2
        have hll : (upL (listsTo G a k)).length ≤ 16777216 := by have := listsTo_le G a k; unfold upL; rw [List.length_map]; omega
        have L1 := Lib.hid l1
        have L2 := Lib.hid l2
        have L3 := Lib.hid l3
        clear l1 l2 l3
        have HN : Hid ((up (G.nb u)).length * 8 ≤ 140737488355328) := by
          have : (up (G.nb u)).length * 8 ≤ 140737488355328 := by rw [up_length]; omega
          exact this
        have HX' := Lib.hid (HX.out.at_ HI.out.1)
        go_wp2_with (first
          | (go_at_call 108; refine (Clone_any wr (by have := HX'.out; rwa [up_length] at this) HN.out).mono ?_; rintro e w2 ⟨hb2, y, rfl, hy⟩; obtain ⟨A2, c2', rfl⟩ := (sl_own hy).2.2.2.imp (fun _ h => h.imp (fun _ h => h.1)); have HB2 := Lib.hid hb2; have HY := Lib.hid hy; clear hb2 hy)
          | (at_builtin; refine app_one w.heap.size rfl (.tmp 30) (.tmp 41) 69 131 _ 2 32 rfl Try.underlying69 infoList rfl (by decide) (by decide) _ _ _ #[.int .i64 (u : Int), .slice A2 (up (G.nb u)).length c2'] rfl rfl rfl (by simp [Value.oneCell']) (L2.out.kept (grown_of_below HB2.out none) (by cases h : Value.ownBlock _ <;> simp)) (Nat.le_trans HI.out.1.size HB2.out.size) (by omega) ?_; intro v1 w1 hown1 hg1 _; have HG1 := Lib.hid hg1; have HO1 := Lib.hid hown1; clear hg1 hown1))
        go_roundg (L - (k + 1))
        case measure => have := HK.out; omega
        case rel =>
          have hL2 := L2.out.kept (grown_of_below HB2.out none) (by cases h : Value.ownBlock _ <;> simp)
          have hB2 := below_then' HI.out.1 HB2.out
          refine ⟨k + 1, by omega, by have := HU.out; subst this; go_num, hB2.grown HG1.out hB2.size (fun c hc => own_ge hL2 c hc), ?_⟩
          rw [HST.out, if_pos h0]
          refine OwnL.snoc L1.out hL2 (fun i p x hp hx => (L3.out i p x hp hx).kept (grown_of_below HB2.out none) (by cases h : Value.ownBlock _ <;> simp)) ?_ HO1.out HG1.out
          exact ownsRow_mono HY.out HI.out.1.size
      · have hd0 : decide (0 < (G.nb u).length) = false := by simpa using h0
        go_wp2
        go_roundg (L - (k + 1))
        case measure => have := HK.out; omega
        case rel =>
          refine ⟨k + 1, by omega, by have := HU.out; subst this; go_num, HI.out.1, ?_⟩
          rw [HST.out, if_neg h0, List.append_nil]
          exact HI.out.2
    · have hke : k = L := by have := HK.out; omega
      have hI := HI.out
      rw [hke, HL.out] at hI
      have HI' := Lib.hid hI
      have hge : ¬ ((f + k : Nat) : Int) < b' ∨ ¬ ((f + k : Nat) : Int) < (G.n : Int) := by have := HLA.out; have := HFA.out; omega
      clear hI HI
      have hd : decide (((f + k : Nat) : Int) < min b' (G.n : Int)) = false := by simp only [decide_eq_false_iff_not]; omega
      go_wp2
      go_ret
      exact ⟨HI'.out.1, _, rfl, HI'.out.2⟩
end Go.Proofs.Ythbojpaghbbnnaa
