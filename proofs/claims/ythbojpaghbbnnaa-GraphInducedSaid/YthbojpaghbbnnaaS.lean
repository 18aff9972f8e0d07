/- Package graph: Pairs, Arcs, Lists. -/
import Derived.Test.YthbojpaghbbnnaaQ
namespace Go.Proofs.Ythbojpaghbbnnaa
open Go.RowKit Go.WideMaps Go.Maps
set_option linter.unusedVariables false
set_option linter.unusedSimpArgs false

def upP (l : List (Nat × Nat)) : List (Int × Int) := l.map (fun p => ((p.1 : Int), (p.2 : Int)))
theorem upP_length (l : List (Nat × Nat)) : (upP l).length = l.length := by simp [upP]
theorem upP_append (a b : List (Nat × Nat)) : upP (a ++ b) = upP a ++ upP b := by simp [upP]
theorem flat_snoc {α : Type} (enc : α → List Value) (xs : List α) (y : α) : (xs ++ [y]).flatMap enc = xs.flatMap enc ++ enc y := by simp
def rowP (G : Gr) (u : Nat) : List (Nat × Nat) := ((G.nb u).filter (fun v => decide (u < v))).map (fun v => (u, v))
def pairsTo (G : Gr) (k : Nat) : List (Nat × Nat) := (List.range k).flatMap (rowP G)
theorem pairsTo_succ (G : Gr) (k : Nat) : pairsTo G (k + 1) = pairsTo G k ++ rowP G k := by simp [pairsTo, List.range_succ]
theorem pairsTo_all (G : Gr) : pairsTo G G.n = G.pairs := rfl
def rowTo (G : Gr) (u j : Nat) : List (Nat × Nat) := (((G.nb u).take j).filter (fun v => decide (u < v))).map (fun v => (u, v))
theorem rowTo_all (G : Gr) (u : Nat) : rowTo G u (G.nb u).length = rowP G u := by simp [rowTo, rowP]
theorem rowTo_succ (G : Gr) (u j x : Nat) (h : (G.nb u)[j]? = some x) : rowTo G u (j + 1) = rowTo G u j ++ if u < x then [(u, x)] else [] := by
  unfold rowTo
  rw [take_snoc' h, List.filter_append, List.map_append]
  congr 1
  by_cases hx : u < x <;> simp [hx]
theorem rowTo_le (G : Gr) (u j : Nat) : (rowTo G u j).length ≤ G.n := by
  unfold rowTo
  rw [List.length_map]
  have h1 := List.length_filter_le (fun v => decide (u < v)) ((G.nb u).take j)
  have h2 := List.length_take_le j (G.nb u)
  have h3 : ((G.nb u).take j).length ≤ (G.nb u).length := by rw [List.length_take]; omega
  have := G.nb_length_le u
  omega
theorem rowP_le (G : Gr) (u : Nat) : (rowP G u).length ≤ G.n := by rw [← rowTo_all]; exact rowTo_le _ _ _
theorem pairsTo_le (G : Gr) (k : Nat) : (pairsTo G k).length ≤ k * G.n := by
  induction k with
  | zero => simp [pairsTo]
  | succ k ih => rw [pairsTo_succ, List.length_append, Nat.succ_mul]; have := rowP_le G k; omega
set_option maxRecDepth 100000 in
set_option maxHeartbeats 4000000 in
theorem Pairs_any (w : World) {lo hi : Nat} {g : Value} {G : Gr} (h : PG w lo hi g G) (hn : G.n ≤ 4096) :
    Calls Try.prog 35 #[g] w fun e w' => Below w.heap.size w w' ∧ ∃ x, e = .returned x ∧ w'.ownsRow w.heap.size 32 2 x (upP G.pairs).length ((upP G.pairs).flatMap encP) := by
  obtain ⟨b, m, t, c, E, rfl, hc⟩ := h.open_
  have c2 := hc.c2
  have HC := Lib.hid hc
  clear hc h
  have hbnd : ∀ k, k ≤ G.n → (pairsTo G k).length ≤ 16777216 := fun k hk => Nat.le_trans (pairsTo_le G k) (Nat.le_trans (Nat.mul_le_mul hk (Nat.le_refl _)) (Nat.le_trans (Nat.mul_le_mul hn hn) (by decide)))
  have HBD := Lib.hid hbnd
  clear hbnd
  go_enter Try.func35, Try.ntmps35
  go_wp2
  go_loopg [3, 13] G.n (fun d v s wr => ∃ k : Nat, d + k = G.n ∧ s = .int .i64 k ∧ Hid (Below w.heap.size w wr ∧ wr.ownsRow w.heap.size 32 2 v (upP (pairsTo G k)).length ((upP (pairsTo G k)).flatMap encP)))
  case atStart => exact ⟨0, rfl, rfl, Below.refl _ _, World.ownsRow_nil _ _ _ _⟩
  case round =>
    clear c2
    obtain ⟨k, hk, rfl, HI⟩ := hrel
    have HK := Lib.hid hk
    clear hk
    by_cases hlt : k < G.n
    · obtain ⟨wo, rfl⟩ : ∃ wo : World, wo = wr := ⟨_, rfl⟩
      obtain ⟨bb, off, x, rfl, _, hbb, g0, hx⟩ := HC.out.rows.get k hlt
      have g1 := (HI.out.1.cell (p := ⟨bb, off + k, none⟩) (Nat.lt_of_lt_of_le hbb HC.out.le)).trans g0
      obtain ⟨hxl, A, cc, rfl⟩ := hx.form
      rw [up_length] at g1 hxl
      have HX := Lib.hid hx
      clear hx g0
      go_wp2
      go_loopg [3, 20] (G.nb k).length (fun d v s wr => ∃ j : Nat, d + j = (G.nb k).length ∧ s = .int .i64 j ∧ Hid (Below w.heap.size w wr ∧ wr.ownsRow w.heap.size 32 2 v (upP (pairsTo G k ++ rowTo G k j)).length ((upP (pairsTo G k ++ rowTo G k j)).flatMap encP)))
      case atStart => exact ⟨0, rfl, rfl, HI.out.1, by simpa [rowTo] using HI.out.2⟩
      case round =>
        obtain ⟨j, hj, rfl, HJ⟩ := hrel
        have HJK := Lib.hid hj
        clear hj g1
        by_cases hjl : j < (G.nb k).length
        · obtain ⟨b2, o2, y, rfl, _, _, g2, Y⟩ := (HX.out.at_ HJ.out.1).get j (by rw [up_length]; exact hjl)
          obtain ⟨z, hz⟩ : ∃ z, (G.nb k)[j]? = some z := ⟨_, List.getElem?_eq_getElem hjl⟩
          have hyz : y = (z : Int) := by
            have := Y.out
            rw [up, List.getElem?_map, hz] at this
            exact (Option.some.inj this).symm
          subst hyz
          have HZ := Lib.hid hz
          clear hz Y
          by_cases hkz : k < z
          · have hlen : (upP (pairsTo G k ++ rowTo G k j)).length + 1 ≤ 16777216 + 4097 := by
              have h1 := HBD.out k (by omega)
              have h2 := rowTo_le G k j
              rw [upP_length, List.length_append]
              omega
            have HLN := Lib.hid hlen
            clear hlen
            go_wp2_with (at_builtin; refine app_one w.heap.size rfl (.tmp 27) (.tmp 31) 23 32 _ 2 16 rfl Try.underlying23 infoPair rfl (by decide) (by decide) _ _ _ #[.int .i64 (k : Int), .int .i64 (z : Int)] rfl rfl rfl (by simp [Value.oneCell']) HJ.out.2 HJ.out.1.size (by have := HLN.out; omega) ?_; intro v1 w1 hown1 hg1 _; have HB1 := Lib.hid (below_app HJ.out.1 HJ.out.2 hg1 (Nat.le_refl _)); have HO1 := Lib.hid hown1; clear hg1 hown1)
            go_roundg ((G.nb k).length - (j + 1))
            case measure => have := HJK.out; omega
            case rel =>
              refine ⟨j + 1, by omega, by go_num, HB1.out, ?_⟩
              rw [rowTo_succ G k j z HZ.out, if_pos hkz, ← List.append_assoc, upP_append, show upP [(k, z)] = [((k : Int), (z : Int))] from rfl, flat_snoc, List.length_append]
              exact HO1.out
          · go_wp2
            go_roundg ((G.nb k).length - (j + 1))
            case measure => have := HJK.out; omega
            case rel =>
              refine ⟨j + 1, by omega, by go_num, HJ.out.1, ?_⟩
              rw [rowTo_succ G k j z HZ.out, if_neg hkz, List.append_nil]
              exact HJ.out.2
        · have hje : j = (G.nb k).length := by have := HJK.out; omega
          go_wp2
          go_roundg (G.n - (k + 1))
          case measure => have := HK.out; omega
          case rel =>
            refine ⟨k + 1, by omega, by go_num, HJ.out.1, ?_⟩
            rw [pairsTo_succ, ← rowTo_all, ← hje]
            exact HJ.out.2
    · have hke : k = G.n := by have := HK.out; omega
      have hI := HI.out
      rw [hke, pairsTo_all] at hI
      have HI' := Lib.hid hI
      clear hI HI
      go_wp2
      go_ret
      exact ⟨HI'.out.1, _, rfl, HI'.out.2⟩
/-! Arcs. -/
def rowA (G : Gr) (u : Nat) : List (Nat × Nat) := (G.nb u).map (fun v => (u, v))
/-- The vertices from a to b - 1. -/
def segF (a : Int) : Nat := (max a 0).toNat
def segL (n : Nat) (a b : Int) : Nat := (min b n - max a 0).toNat
def seg (n : Nat) (a b : Int) : List Nat := (List.range (segL n a b)).map (segF a + ·)
def Gr.arcs (G : Gr) (a b : Int) : List (Nat × Nat) := (seg G.n a b).flatMap (rowA G)
def arcsTo (G : Gr) (a : Int) (k : Nat) : List (Nat × Nat) := ((List.range k).map (segF a + ·)).flatMap (rowA G)
theorem arcsTo_succ (G : Gr) (a : Int) (k : Nat) : arcsTo G a (k + 1) = arcsTo G a k ++ rowA G (segF a + k) := by simp [arcsTo, List.range_succ]
theorem arcsTo_le (G : Gr) (a : Int) (k : Nat) : (arcsTo G a k).length ≤ k * G.n := by
  induction k with
  | zero => simp [arcsTo]
  | succ k ih => rw [arcsTo_succ, List.length_append, Nat.succ_mul, rowA, List.length_map]; have := G.nb_length_le (segF a + k); omega
theorem segL_le (n : Nat) (a b : Int) : segL n a b ≤ n := by unfold segL; omega
set_option maxRecDepth 100000 in
set_option maxHeartbeats 4000000 in
theorem Arcs_any (w : World) {lo hi : Nat} {g : Value} {G : Gr} (h : PG w lo hi g G) (hn : G.n ≤ 4096) (a b' : Int) (ha : Wf a) (hb : Wf b') :
    Calls Try.prog 47 #[g, .int .i64 a, .int .i64 b'] w fun e w' => Below w.heap.size w w' ∧ ∃ x, e = .returned x ∧ w'.ownsRow w.heap.size 32 2 x (upP (G.arcs a b')).length ((upP (G.arcs a b')).flatMap encP) := by
  obtain ⟨b, m, t, c, E, rfl, hc⟩ := h.open_
  have HC := Lib.hid hc
  clear hc h
  have hsL := segL_le G.n a b'
  have hbnd : ∀ k, k ≤ segL G.n a b' → (arcsTo G a k).length ≤ 16777216 := fun k hk => Nat.le_trans (arcsTo_le G a k) (Nat.le_trans (Nat.mul_le_mul (Nat.le_trans hk hsL) (Nat.le_refl _)) (Nat.le_trans (Nat.mul_le_mul hn hn) (by decide)))
  have HBD := Lib.hid hbnd
  obtain ⟨f, hf⟩ : ∃ f, f = segF a := ⟨_, rfl⟩
  obtain ⟨L, hL⟩ : ∃ L, L = segL G.n a b' := ⟨_, rfl⟩
  have hfa : (f : Int) = max a 0 := by rw [hf]; unfold segF; omega
  have hLa : (L : Int) = max 0 (min b' G.n - max a 0) := by rw [hL]; unfold segL; omega
  have HF := Lib.hid hf
  have HL := Lib.hid hL
  have HFA := Lib.hid hfa
  have HLA := Lib.hid hLa
  have hL4 : L ≤ 4096 := by omega
  have hf0 : (f : Int) ≤ 9223372036854775807 := by unfold Wf at *; omega
  clear hbnd hsL hf hL hfa hLa
  go_enter Try.func47, Try.ntmps47
  go_wp2
  go_loopg [7, 8] L (fun d v s wr => ∃ k : Nat, d + k = L ∧ s = .int .i64 ((f + k : Nat) : Int) ∧ Hid (Below w.heap.size w wr ∧ wr.ownsRow w.heap.size 32 2 v (upP (arcsTo G a k)).length ((upP (arcsTo G a k)).flatMap encP)))
  case atStart => exact ⟨0, rfl, by rw [← HFA.out]; rfl, Below.refl _ _, World.ownsRow_nil _ _ _ _⟩
  case round =>
    obtain ⟨k, hk, rfl, HI⟩ := hrel
    have HK := Lib.hid hk
    clear hk
    have c0 := (HC.out.at_ HI.out.1).c0
    by_cases hlt : k < L
    · obtain ⟨wo, rfl⟩ : ∃ wo : World, wo = wr := ⟨_, rfl⟩
      have hu : f + k < G.n := by have := HLA.out; have := HFA.out; omega
      have hub : ((f + k : Nat) : Int) < b' := by have := HLA.out; have := HFA.out; omega
      have c2 := (HC.out.at_ HI.out.1).c2
      obtain ⟨bb, off, x, rfl, _, hbb, g0, hx⟩ := HC.out.rows.get (f + k) hu
      have g1 := (HI.out.1.cell (p := ⟨bb, off + (f + k), none⟩) (Nat.lt_of_lt_of_le hbb HC.out.le)).trans g0
      obtain ⟨hxl, A, cc, rfl⟩ := hx.form
      rw [up_length] at g1 hxl
      have HX := Lib.hid hx
      obtain ⟨u, hu0⟩ : ∃ u, u = f + k := ⟨_, rfl⟩
      have HU := Lib.hid hu0
      rw [← hu0] at hub hu g1 HX hxl ⊢
      clear hx g0 hu0
      have hd : decide ((u : Int) < min b' (G.n : Int)) = true := by simp; omega
      · go_wp2
        go_loopg [7, 31] (G.nb u).length (fun d v s wr => ∃ j : Nat, d + j = (G.nb u).length ∧ s = .int .i64 j ∧ Hid (Below w.heap.size w wr ∧ wr.ownsRow w.heap.size 32 2 v (upP (arcsTo G a k ++ (rowA G u).take j)).length ((upP (arcsTo G a k ++ (rowA G u).take j)).flatMap encP)))
        case atStart => exact ⟨0, rfl, rfl, HI.out.1, by simpa using HI.out.2⟩
        case round =>
          obtain ⟨j, hj, rfl, HJ⟩ := hrel
          have HJK := Lib.hid hj
          clear hj g1
          by_cases hjl : j < (G.nb u).length
          · obtain ⟨b2, o2, y, rfl, _, _, g2, Y⟩ := (HX.out.at_ HJ.out.1).get j (by rw [up_length]; exact hjl)
            obtain ⟨z, hz⟩ : ∃ z, (G.nb u)[j]? = some z := ⟨_, List.getElem?_eq_getElem hjl⟩
            have hyz : y = (z : Int) := by
              have := Y.out
              rw [up, List.getElem?_map, hz] at this
              exact (Option.some.inj this).symm
            subst hyz
            have hlen : (upP (arcsTo G a k ++ (rowA G u).take j)).length + 1 ≤ 16777216 + 4097 := by
              have h1 := HBD.out k (by have := HL.out; omega)
              have h2 := List.length_take_le j (rowA G u)
              have h3 : (rowA G u).length ≤ G.n := by rw [rowA, List.length_map]; exact G.nb_length_le u
              rw [upP_length, List.length_append, List.length_take]
              omega
            have HLN := Lib.hid hlen
            have HZ : Hid ((rowA G u)[j]? = some (u, z)) := by
              show (rowA G u)[j]? = some (u, z)
              rw [rowA, List.getElem?_map, hz]
              rfl
            clear hlen hz Y
            go_wp2_with (at_builtin; refine app_one w.heap.size rfl (.tmp 35) (.tmp 39) 23 32 _ 2 16 rfl Try.underlying23 infoPair rfl (by decide) (by decide) _ _ _ #[.int .i64 (u : Int), .int .i64 (z : Int)] rfl rfl rfl (by simp [Value.oneCell']) HJ.out.2 HJ.out.1.size (by have := HLN.out; omega) ?_; intro v1 w1 hown1 hg1 _; have HB1 := Lib.hid (below_app HJ.out.1 HJ.out.2 hg1 (Nat.le_refl _)); have HO1 := Lib.hid hown1; clear hg1 hown1)
            go_roundg ((G.nb u).length - (j + 1))
            case measure => have := HJK.out; omega
            case rel =>
              refine ⟨j + 1, by omega, by go_num, HB1.out, ?_⟩
              rw [take_snoc' HZ.out, ← List.append_assoc, upP_append, show upP [(u, z)] = [((u : Int), (z : Int))] from rfl, flat_snoc, List.length_append]
              exact HO1.out
          · have hje : j = (G.nb u).length := by have := HJK.out; omega
            go_wp2
            go_roundg (L - (k + 1))
            case measure => have := HK.out; omega
            case rel =>
              refine ⟨k + 1, by omega, by have := HU.out; subst this; go_num, HJ.out.1, ?_⟩
              rw [arcsTo_succ]
              have e : (rowA G u).take j = rowA G (segF a + k) := by
                rw [HU.out, HF.out, List.take_of_length_le (by rw [rowA, List.length_map, ← HF.out, ← HU.out]; omega)]
              rw [← e]
              exact HJ.out.2
    · have hke : k = L := by have := HK.out; omega
      have hI := HI.out
      rw [hke, HL.out] at hI
      have HI' := Lib.hid hI
      have hge : ¬ ((f + k : Nat) : Int) < b' ∨ ¬ ((f + k : Nat) : Int) < (G.n : Int) := by have := HLA.out; have := HFA.out; omega
      clear hI HI
      have hd : decide (((f + k : Nat) : Int) < min b' (G.n : Int)) = false := by simp only [decide_eq_false_iff_not]; omega
      go_wp2
      go_ret
      exact ⟨HI'.out.1, _, rfl, HI'.out.2⟩
end Go.Proofs.Ythbojpaghbbnnaa
