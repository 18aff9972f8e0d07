/- Chapter 5's law functions: what they share. -/
import Derived.Test.YthbojpaghbbnnaaJ
namespace Go.Proofs.Ythbojpaghbbnnaa
open Go.RowKit
set_option linter.unusedVariables false
set_option linter.unusedSimpArgs false

theorem bl (w : World) (o : Obj) : Below w.heap.size w (w.alloc o) := (Below.refl _ _).alloc (Nat.le_refl _) o
theorem bdn (w : World) (n : Nat) : Below w.heap.size w (w.drewN n) := below_drewN (Below.refl _ _) n
theorem lit_S {α : Type} (enc : α → List Value) (sz : Nat) (hz : ∀ x, (enc x).length = sz) (w : World) (e : TypeId) (cs : Array Value) (n : Nat) (xs : List α) (h : cs = (xs.flatMap enc).toArray) (hn : n = xs.length) (hm : xs.length ≤ maxLen) :
    SlS (w.alloc (.cells cs e)) w.heap.size (w.alloc (.cells cs e)).heap.size enc sz (.slice (some ⟨w.heap.size, 0, none⟩) n n) xs := by
  subst h hn
  refine ⟨Nat.le_refl _, flat_length enc sz hz xs, hm, _, _, rfl, fun _ => ⟨w.heap.size, 0, rfl, Nat.le_refl _, by simp, fun j hj => ?_⟩⟩
  rw [Nat.zero_add]
  simp only [World.cell?, heap_alloc_new w _]
  simp
theorem lit_1 {α : Type} (f : α → Value) (w : World) (e : TypeId) (cs : Array Value) (n : Nat) (xs : List α) (h : cs = (xs.map f).toArray) (hn : n = xs.length) (hm : xs.length ≤ maxLen) :
    Sl1 (w.alloc (.cells cs e)) w.heap.size (w.alloc (.cells cs e)).heap.size f (.slice (some ⟨w.heap.size, 0, none⟩) n n) xs := by
  subst h hn
  refine ⟨Nat.le_refl _, by simp, hm, _, _, rfl, fun _ => ⟨w.heap.size, 0, rfl, Nat.le_refl _, by simp, fun j hj => ?_⟩⟩
  rw [Nat.zero_add]
  simp only [World.cell?, heap_alloc_new w _]
  simp
theorem OwnS.sl {α : Type} {w : World} {base : Nat} {e : TypeId} {enc : α → List Value} {sz : Nat} {v : Value} {xs : List α} (hz : ∀ x, (enc x).length = sz) (hsz : 0 < sz) (h : OwnS w base e enc sz v xs) : SlS w base w.heap.size enc sz v xs := SlS.own hz hsz h
theorem PG.ptr {w : World} {lo hi : Nat} {g : Value} {G : Gr} (h : PG w lo hi g G) : ∃ b, g = .pointer (some ⟨b, 0, none⟩) := by
  obtain ⟨b, _, _, _, _, e, _⟩ := h.open_
  exact ⟨b, e⟩
def ps6 : List (Int × Int) := [(1, 0), (0, 1), (1, 2), (2, 2), (2, 0), (4, 2)]
def G6 : Gr := Gr.ofPairs 6 ps6
theorem first_make6 (w : World) : Calls Try.prog 105 #[.int .i64 6, .slice (some ⟨w.heap.size, 0, none⟩) 6 6] (w.alloc (.cells #[.int .i64 1, .int .i64 0, .int .i64 0, .int .i64 1, .int .i64 1, .int .i64 2, .int .i64 2, .int .i64 2, .int .i64 2, .int .i64 0, .int .i64 4, .int .i64 2] 32))
    fun e w' => Below w.heap.size w w' ∧ ∃ b, e = .returned (.tuple #[.pointer (some ⟨b, 0, none⟩), .int .i64 0]) ∧ ∃ lo, PG w' lo w'.heap.size (.pointer (some ⟨b, 0, none⟩)) G6 := by
  refine (Make_in _ 6 (by decide) (lit_S encP 2 encP_len w 32 _ 6 ps6 rfl rfl (by decide))).mono ?_
  rintro e w' ⟨hb, h1, _⟩
  obtain ⟨g, rfl, hg⟩ := h1 (by decide)
  obtain ⟨b, rfl⟩ := hg.ptr
  exact ⟨below_then' (bl w _) hb, b, rfl, _, hg⟩
theorem first_make2 (w : World) : Calls Try.prog 105 #[.int .i64 2, .slice (some ⟨w.heap.size, 0, none⟩) 1 1] (w.alloc (.cells #[.int .i64 2, .int .i64 2] 32))
    fun e w' => e = .returned (.tuple #[.pointer none, .int .i64 42]) ∧ Below w.heap.size w w' := by
  refine (Make_in _ 2 (by decide) (lit_S encP 2 encP_len w 32 _ 1 [(2, 2)] rfl rfl (by decide))).mono ?_
  rintro e w' ⟨hb, _, h1⟩
  exact ⟨h1 (by decide), below_then' (bl w _) hb⟩
theorem G6_pairs : upP G6.pairs = [(0, 1), (0, 2), (1, 2), (2, 4)] := by decide +kernel
theorem G6_nb : up (G6.nbz 2) = [0, 1, 4] := by decide +kernel
theorem G6_deg : (if (0 : Int) ≤ 2 then ((G6.nb (2 : Int).toNat).length : Int) else 0) = 3 := by decide +kernel
theorem H6_edges : (G6.induced [true, false, true, true, true]).edges = 2 := by decide +kernel
theorem nb_sl {w : World} {base : Nat} {v : Value} {l : List Nat} (h : w.ownsRow base 3 1 v l.length ((up l).map (Value.int .i64))) : Ints w base w.heap.size v (up l) := by
  refine Sl1.own (e := 3) (n := l.length) h
theorem G6_small : G6.n ≤ 4096 := by decide
theorem G6_edges : G6.edges = 4 := by decide +kernel
def all6 : List Bool := [true, true, true, true, true, true]
theorem G6_parted : Parted G6 (kK all6) [0, 0, 0, 3, 0, 5] := by
  have c0 : ∀ x, Con G6 (kK all6) x x := fun x => .here
  have c1 : Con G6 (kK all6) 0 1 := .step .here (by decide +kernel) (by decide)
  have c2 : Con G6 (kK all6) 0 2 := .step .here (by decide +kernel) (by decide)
  have c4 : Con G6 (kK all6) 0 4 := .step c2 (by decide +kernel) (by decide)
  refine ⟨rfl, fun x a h => ?_, fun x hx _ _ h => ?_, fun x y hx hy hk h => .inl ?_⟩
  · obtain ⟨hlt, e⟩ := List.getElem?_eq_some_iff.1 h
    have hlt : x < 6 := hlt
    refine .inr ?_
    rcases (show x = 0 ∨ x = 1 ∨ x = 2 ∨ x = 3 ∨ x = 4 ∨ x = 5 by omega) with rfl | rfl | rfl | rfl | rfl | rfl <;> simp at h <;> subst h
    · exact ⟨0, rfl, by decide, by decide, by decide, by decide, c0 0, rfl⟩
    · exact ⟨0, rfl, by decide, by decide, by decide, by decide, c1, rfl⟩
    · exact ⟨0, rfl, by decide, by decide, by decide, by decide, c2, rfl⟩
    · exact ⟨3, rfl, by decide, by decide, by decide, by decide, c0 3, rfl⟩
    · exact ⟨0, rfl, by decide, by decide, by decide, by decide, c4, rfl⟩
    · exact ⟨5, rfl, by decide, by decide, by decide, by decide, c0 5, rfl⟩
  · have hlt : x < 6 := hx
    rcases (show x = 0 ∨ x = 1 ∨ x = 2 ∨ x = 3 ∨ x = 4 ∨ x = 5 by omega) with rfl | rfl | rfl | rfl | rfl | rfl <;> simp at h
  · have h1 : ∀ x < 6, ∀ y < 6, G6.adj x y = true → ([0, 0, 0, 3, 0, 5] : List Int)[y]? = ([0, 0, 0, 3, 0, 5] : List Int)[x]? := by decide +kernel
    have h2 : ∀ x, kK all6 x = true → x < 6 := by
      intro x h
      rcases Nat.lt_or_ge x 6 with h1 | h1
      · exact h1
      · simp [kK, all6, List.getD_eq_getElem?_getD, List.getElem?_eq_none (show ([true, true, true, true, true, true] : List Bool).length ≤ x from h1)] at h
    exact h1 x (h2 x hx) y (h2 y hy) hk
theorem lit_ints (w : World) (cs : Array Value) (n : Nat) (xs : List Int) (h : cs = (xs.map (Value.int .i64)).toArray) (hn : n = xs.length) (hm : xs.length ≤ maxLen) :
    Ints (w.alloc (.cells cs 3)) w.heap.size (w.alloc (.cells cs 3)).heap.size (.slice (some ⟨w.heap.size, 0, none⟩) n n) xs := lit_1 _ w _ cs n xs h hn hm
theorem first_pairs (w : World) {lo hi : Nat} {v : Value} {xs : List (Int × Int)} (h : Prs w lo hi v xs) : Calls Try.prog 60 #[v, .slice (some ⟨w.heap.size, 0, none⟩) 4 4] (w.alloc (.cells #[.int .i64 0, .int .i64 1, .int .i64 0, .int .i64 2, .int .i64 1, .int .i64 2, .int .i64 2, .int .i64 4] 32))
    fun e w' => e = .returned (.bool (decide (xs = [(0, 1), (0, 2), (1, 2), (2, 4)]))) ∧ Below w.heap.size w w' :=
  (SamePairs_any _ (h.at_ (bl w _)) (lit_S encP 2 encP_len w 32 _ 4 [(0, 1), (0, 2), (1, 2), (2, 4)] rfl rfl (by decide))).mono fun e w' ⟨h1, h2⟩ => ⟨h1, below_then' (bl w _) h2⟩
theorem first_to (w : World) {lo hi : Nat} {v : Value} {xs : List Int} (h : Ints w lo hi v xs) : Calls Try.prog 53 #[v, .slice (some ⟨w.heap.size, 0, none⟩) 3 3] (w.alloc (.cells #[.int .i64 0, .int .i64 1, .int .i64 4] 3))
    fun e w' => e = .returned (.bool (decide (xs = [0, 1, 4]))) ∧ Below w.heap.size w w' :=
  (SameInts_any _ (h.at_ (bl w _)) (lit_ints w _ 3 [0, 1, 4] rfl rfl (by decide))).mono fun e w' ⟨h1, h2⟩ => ⟨h1, below_then' (bl w _) h2⟩
theorem first_same (w : World) {lo hi : Nat} {v : Value} {xs : List Int} (h : Ints w lo hi v xs) : Calls Try.prog 53 #[v, .slice (some ⟨w.heap.size, 0, none⟩) 6 6] (w.alloc (.cells #[.int .i64 0, .int .i64 0, .int .i64 0, .int .i64 3, .int .i64 0, .int .i64 5] 3))
    fun e w' => e = .returned (.bool (decide (xs = [0, 0, 0, 3, 0, 5]))) ∧ Below w.heap.size w w' :=
  (SameInts_any _ (h.at_ (bl w _)) (lit_ints w _ 6 [0, 0, 0, 3, 0, 5] rfl rfl (by decide))).mono fun e w' ⟨h1, h2⟩ => ⟨h1, below_then' (bl w _) h2⟩
theorem first_parts (w : World) {lo hi : Nat} {g : Value} (h : PG w lo hi g G6) : Calls Try.prog 37 #[g, .slice (some ⟨w.heap.size, 0, none⟩) 6 6] (w.alloc (.cells #[.bool true, .bool true, .bool true, .bool true, .bool true, .bool true] 4))
    fun e w' => Below w.heap.size w w' ∧ ∃ x lo', e = .returned x ∧ Ints w' lo' w'.heap.size x [0, 0, 0, 3, 0, 5] := by
  refine (Parts_any _ (h.at_ (bl w _)) (lit_1 Value.bool w 4 _ 6 all6 rfl rfl (by decide))).mono ?_
  rintro e w' ⟨hb, x, p, rfl, hx, hp⟩
  rw [hp.uniq G6_parted] at hx
  exact ⟨below_then' (bl w _) hb, x, _, rfl, Sl1.own hx⟩
theorem first_induced (w : World) {lo hi : Nat} {g : Value} (h : PG w lo hi g G6) : Calls Try.prog 40 #[g, .slice (some ⟨w.heap.size, 0, none⟩) 5 5] (w.alloc (.cells #[.bool true, .bool false, .bool true, .bool true, .bool true] 4))
    fun e w' => Below w.heap.size w w' ∧ ∃ b lo', e = .returned (.pointer (some ⟨b, 0, none⟩)) ∧ PG w' lo' w'.heap.size (.pointer (some ⟨b, 0, none⟩)) (G6.induced [true, false, true, true, true]) := by
  refine (Induced_any _ (h.at_ (bl w _)) (lit_1 Value.bool w 4 _ 5 [true, false, true, true, true] rfl rfl (by decide))).mono ?_
  rintro e w' ⟨hb, x, rfl, hx⟩
  obtain ⟨b, rfl⟩ := hx.ptr
  exact ⟨below_then' (bl w _) hb, b, _, rfl, hx⟩
theorem first_changed (w : World) {lo hi : Nat} {g : Value} (h : PG w lo hi g G6) : Calls Try.prog 43 #[g, .slice (some ⟨w.heap.size, 0, none⟩) 1 1] (w.alloc (.cells #[.int .i64 0, .int .i64 6, .bool true] 46))
    fun e w' => e = .returned (.tuple #[.pointer none, .int .i64 42]) ∧ Below w.heap.size w w' := by
  refine (Changed_any _ (h.at_ (bl w _)) (lit_S encC 3 encC_len w 46 _ 1 [((0, 6), true)] rfl rfl (by decide))).mono ?_
  rintro e w' ⟨hb, _, h1⟩
  exact ⟨h1 (by decide), below_then' (bl w _) hb⟩
set_option maxRecDepth 100000 in
set_option maxHeartbeats 4000000 in
theorem num_any (w : World) (n : Int) : Calls Try.prog 44 #[.int .i64 n] w fun e w' => e = .returned (.int .i64 n) ∧ w = w' := by
  go_enter Try.func44, Try.ntmps44
  go_wp2
  go_ret
  exact ⟨rfl, rfl⟩
set_option maxRecDepth 100000 in
set_option maxHeartbeats 2000000 in
theorem first_any (w : World) : Calls Try.prog 31 #[] w fun e w' => e = .returned (.bool true) ∧ Below w.heap.size w w' := by
  go_enter Try.func31, Try.ntmps31
  go_wp2_with (first
    | (go_at_call 105; (with_reducible refine (first_make6 w).mono ?_); rintro e w1 ⟨hb, b, rfl, lo, hg⟩; have HB := Lib.hid hb; have HG := Lib.hid hg; clear hb hg)
    | (go_at_call 44; (with_reducible refine (num_any _ _).mono ?_); rintro e w' ⟨rfl, rfl⟩)
    | (go_at_call 35; (with_reducible refine (Pairs_any _ HG.out G6_small).mono ?_); rintro e w2 ⟨hb, x, rfl, hx⟩; have HB := Lib.hid (below_then' HB.out hb); have HG := Lib.hid (HG.out.at_ hb); have HX := Lib.hid (OwnS.sl (xs := upP G6.pairs) encP_len (by decide) hx); clear hb hx)
    | (go_at_call 60; (with_reducible refine (first_pairs _ HX.out).mono ?_); rw [G6_pairs]; rintro e w3 ⟨rfl, hb⟩; have HB := Lib.hid (below_then' HB.out hb); have HG := Lib.hid (HG.out.at_ hb); clear hb HX)
    | (go_at_call 38; (with_reducible refine (Neighbours_any _ HG.out 2).mono ?_); rintro e w4 ⟨hb, x, rfl, hx⟩; have HX := Lib.hid (nb_sl hx); have HB := Lib.hid (below_then' HB.out hb); have HG := Lib.hid (HG.out.at_ hb); clear hb hx)
    | (go_at_call 53; first
        | ((with_reducible refine (first_to _ HX.out).mono ?_); rw [G6_nb]; rintro e w5 ⟨rfl, hb⟩; have HB := Lib.hid (below_then' HB.out hb); have HG := Lib.hid (HG.out.at_ hb); clear hb HX)
        | ((with_reducible refine (first_same _ HX.out).mono ?_); rintro e w7 ⟨rfl, hb⟩; have HB := Lib.hid (below_then' HB.out hb); have HG := Lib.hid (HG.out.at_ hb); clear hb HX))
    | (go_at_call 37; (with_reducible refine (first_parts _ HG.out).mono ?_); rintro e w6 ⟨hb, x, lo', rfl, hx⟩; have HX := Lib.hid hx; have HB := Lib.hid (below_then' HB.out hb); have HG := Lib.hid (HG.out.at_ hb); clear hb hx)
    | (go_at_call 40; (with_reducible refine (first_induced _ HG.out).mono ?_); rintro e w8 ⟨hb, b2, lo2, rfl, hh⟩; have HH := Lib.hid hh; have HB := Lib.hid (below_then' HB.out hb); have HG := Lib.hid (HG.out.at_ hb); clear hb hh)
    | (go_at_call 43; (with_reducible refine (first_changed _ HG.out).mono ?_); rintro e w9 ⟨rfl, hb⟩; have HB := Lib.hid (below_then' HB.out hb); have HG := Lib.hid (HG.out.at_ hb); have HH := Lib.hid (HH.out.at_ hb); clear hb)
    | (go_at_call 105; (with_reducible refine (first_make2 _).mono ?_); rintro e w10 ⟨rfl, hb⟩; have HB := Lib.hid (below_then' HB.out hb); have HG := Lib.hid (HG.out.at_ hb); have HH := Lib.hid (HH.out.at_ hb); clear hb)
    | (go_at_call 93; (with_reducible refine (N_any _ HG.out).mono ?_); rintro e w' ⟨rfl, rfl⟩)
    | (go_at_call 46; (with_reducible refine (Degree_any _ HG.out 2).mono ?_); rw [G6_deg]; rintro e w' ⟨rfl, rfl⟩)
    | (go_at_call 45; first | ((with_reducible refine (Edges_any _ HG.out).mono ?_); rw [G6_edges]; rintro e w' ⟨rfl, rfl⟩) | ((with_reducible refine (Edges_any _ HH.out).mono ?_); rw [H6_edges]; rintro e w' ⟨rfl, rfl⟩)))
  go_ret
  exact ⟨rfl, HB.out⟩
end Go.Proofs.Ythbojpaghbbnnaa
