/- Chapter 5's law functions: alike. -/
import Derived.Test.YthbojpaghbbnnaaL
namespace Go.Proofs.Ythbojpaghbbnnaa
open Go.RowKit
set_option linter.unusedVariables false
set_option linter.unusedSimpArgs false

def likeB (G H : Gr) : Bool := decide (G.n = H.n) && decide (G.edges = H.edges) && decide (upP G.pairs = upP H.pairs)
theorem like_self (G : Gr) : likeB G G = true := by simp [likeB]
set_option maxRecDepth 100000 in
set_option maxHeartbeats 4000000 in
theorem alike_any (w : World) {lo hi lo' hi' b b' : Nat} {G H : Gr} (hg : PG w lo hi (.pointer (some ⟨b, 0, none⟩)) G) (hh : PG w lo' hi' (.pointer (some ⟨b', 0, none⟩)) H) (h1 : G.n ≤ 4096) (h2 : H.n ≤ 4096) :
    Calls Try.prog 36 #[.pointer (some ⟨b, 0, none⟩), .pointer (some ⟨b', 0, none⟩)] w fun e w' => e = .returned (.bool (likeB G H)) ∧ Below w.heap.size w w' := by
  have HG := Lib.hid hg
  have HH := Lib.hid hh
  clear hg hh
  unfold likeB
  cases e1 : ((G.n : Int) == (H.n : Int))
  · have f1 : decide (G.n = H.n) = false := by rw [decide_eq_false_iff_not]; intro e; simp [e] at e1
    have F1 := Lib.hid f1
    clear f1
    go_enter Try.func36, Try.ntmps36
    go_wp2_with (go_at_call 93; first | ((with_reducible refine (N_any _ HG.out).mono ?_); rintro e w' ⟨rfl, rfl⟩) | ((with_reducible refine (N_any _ HH.out).mono ?_); rintro e w' ⟨rfl, rfl⟩))
    go_ret
    exact ⟨by rw [F1.out]; rfl, Below.refl _ _⟩
  · have f1 : decide (G.n = H.n) = true := by rw [decide_eq_true_eq]; have := eq_of_beq e1; omega
    have F1 := Lib.hid f1
    clear f1
    cases e2 : ((G.edges : Int) == (H.edges : Int))
    · have f2 : decide (G.edges = H.edges) = false := by rw [decide_eq_false_iff_not]; intro e; simp [e] at e2
      have F2 := Lib.hid f2
      clear f2
      go_enter Try.func36, Try.ntmps36
      go_wp2_with (first
        | (go_at_call 93; first | ((with_reducible refine (N_any _ HG.out).mono ?_); rintro e w' ⟨rfl, rfl⟩) | ((with_reducible refine (N_any _ HH.out).mono ?_); rintro e w' ⟨rfl, rfl⟩))
        | (go_at_call 45; first | ((with_reducible refine (Edges_any _ HG.out).mono ?_); rintro e w' ⟨rfl, rfl⟩) | ((with_reducible refine (Edges_any _ HH.out).mono ?_); rintro e w' ⟨rfl, rfl⟩)))
      go_ret
      exact ⟨by rw [F1.out, F2.out]; rfl, Below.refl _ _⟩
    · have f2 : decide (G.edges = H.edges) = true := by rw [decide_eq_true_eq]; have := eq_of_beq e2; omega
      have F2 := Lib.hid f2
      clear f2
      have HB := Lib.hid (Below.refl w.heap.size w)
      go_enter Try.func36, Try.ntmps36
      go_wp2_with (first
        | (go_at_call 93; first | ((with_reducible refine (N_any _ HG.out).mono ?_); rintro e w' ⟨rfl, rfl⟩) | ((with_reducible refine (N_any _ HH.out).mono ?_); rintro e w' ⟨rfl, rfl⟩))
        | (go_at_call 45; first | ((with_reducible refine (Edges_any _ HG.out).mono ?_); rintro e w' ⟨rfl, rfl⟩) | ((with_reducible refine (Edges_any _ HH.out).mono ?_); rintro e w' ⟨rfl, rfl⟩))
        | (go_at_call 35; first
            | ((with_reducible refine (Pairs_any _ HG.out h1).mono ?_); rintro e w1 ⟨hb, x, rfl, hx⟩; have HX := Lib.hid (OwnS.sl (xs := upP G.pairs) encP_len (by decide) hx); have HB := Lib.hid (below_then' HB.out hb); have HH := Lib.hid (HH.out.at_ hb); clear hb hx HG)
            | ((with_reducible refine (Pairs_any _ HH.out h2).mono ?_); rintro e w2 ⟨hb, y, rfl, hy⟩; have HX := Lib.hid (HX.out.at_ hb); have HY := Lib.hid (OwnS.sl (xs := upP H.pairs) encP_len (by decide) hy); have HB := Lib.hid (below_then' HB.out hb); clear hb hy))
        | (go_at_call 60; refine (SamePairs_any _ HX.out HY.out).mono ?_; rintro e w3 ⟨rfl, hb⟩; have HB := Lib.hid (below_then' HB.out hb); clear hb))
      go_ret
      exact ⟨by rw [F1.out, F2.out]; simp, HB.out⟩
end Go.Proofs.Ythbojpaghbbnnaa
