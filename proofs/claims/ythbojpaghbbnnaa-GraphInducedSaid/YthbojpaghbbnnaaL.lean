/- Chapter 5's law functions: fine, graphOf, alike. -/
import Derived.Test.YthbojpaghbbnnaaK
namespace Go.Proofs.Ythbojpaghbbnnaa
open Go.RowKit
set_option linter.unusedVariables false
set_option linter.unusedSimpArgs false

def fineB (n : Int) (ps : List (Int × Int)) : Bool := decide (0 ≤ n) && decide (n ≤ 3000) && decide (ps.length ≤ 20000) && ps.all (okP n.toNat)
theorem fine_no {n : Int} {ps : List (Int × Int)} {p : Int × Int} (h : p ∈ ps) (k : okP n.toNat p = false) : fineB n ps = false := by
  unfold fineB
  have : ps.all (okP n.toNat) = false := by rw [List.all_eq_false]; exact ⟨p, h, by rw [k]; simp⟩
  rw [this, Bool.and_false]
set_option maxRecDepth 100000 in
set_option maxHeartbeats 4000000 in
theorem fine_any (w : World) (n : Int) {lo hi : Nat} {v : Value} {ps : List (Int × Int)} (h : Prs w lo hi v ps) :
    Calls Try.prog 32 #[.int .i64 n, v] w fun e w' => e = .returned (.bool (fineB n ps)) ∧ Below w.heap.size w w' := by
  obtain ⟨hl, A, c, rfl⟩ := h.form
  by_cases h0 : 0 ≤ n
  · by_cases h1 : n ≤ 3000
    · by_cases h2 : ps.length ≤ 20000
      · obtain ⟨m, rfl⟩ := Int.eq_ofNat_of_zero_le h0
        have hlt1 : ¬ (m : Int) < 0 := by omega
        have hgt1 : ¬ (3000 : Int) < m := by omega
        have hgt2 : ¬ (20000 : Int) < ps.length := by omega
        go_enter Try.func32, Try.ntmps32
        go_wp2
        go_loopg [5] ps.length (fun g s wr => ∃ k : Nat, Hid (g + k = ps.length) ∧ s = .int .i64 k ∧ wr = w ∧ Hid (∀ p ∈ ps.take k, okP m p = true))
        case atStart => exact ⟨0, rfl, rfl, rfl, by simp [Hid]⟩
        case round =>
          obtain ⟨k, HKk, rfl, rfl, HI⟩ := hrel
          by_cases hlt : k < ps.length
          · obtain ⟨b, off, p, rfl, _, _, hc, X⟩ := h.get encP_len k hlt
            have c0 := hc 0 (by omega)
            have c1 := hc 1 (by omega)
            obtain ⟨x, y⟩ := p
            simp only [encP, Nat.add_zero, List.getElem?_cons_zero, List.getElem?_cons_succ] at c0 c1
            clear hc
            by_cases hx0 : x < 0
            · go_wp2
              go_ret
              have hm : (x, y) ∈ ps := List.mem_of_getElem? X.out
              have hf : fineB (m : Int) ps = false := fine_no hm (by rw [← Bool.not_eq_true, Int.toNat_natCast, okP_iff]; omega)
              exact ⟨by rw [hf]; rfl, Below.refl _ _⟩
            · have hdummy0 := trivial
              by_cases hx1 : (m : Int) ≤ x
              · go_wp2
                go_ret
                have hm : (x, y) ∈ ps := List.mem_of_getElem? X.out
                have hf : fineB (m : Int) ps = false := fine_no hm (by rw [← Bool.not_eq_true, Int.toNat_natCast, okP_iff]; omega)
                exact ⟨by rw [hf]; rfl, Below.refl _ _⟩
              · have hdummy1 := trivial
                by_cases hy0 : y < 0
                · go_wp2
                  go_ret
                  have hm : (x, y) ∈ ps := List.mem_of_getElem? X.out
                  have hf : fineB (m : Int) ps = false := fine_no hm (by rw [← Bool.not_eq_true, Int.toNat_natCast, okP_iff]; omega)
                  exact ⟨by rw [hf]; rfl, Below.refl _ _⟩
                · have hdummy2 := trivial
                  by_cases hy1 : (m : Int) ≤ y
                  · go_wp2
                    go_ret
                    have hm : (x, y) ∈ ps := List.mem_of_getElem? X.out
                    have hf : fineB (m : Int) ps = false := fine_no hm (by rw [← Bool.not_eq_true, Int.toNat_natCast, okP_iff]; omega)
                    exact ⟨by rw [hf]; rfl, Below.refl _ _⟩
                  · have hdummy3 := trivial
                    go_wp2
                    go_roundg (ps.length - (k + 1))
                    case measure => have := HKk.out; omega
                    case rel =>
                      refine ⟨k + 1, by have := HKk.out; show _ = _; omega, by go_num, rfl, fun p hp => ?_⟩
                      rw [take_snoc' X.out] at hp
                      rcases List.mem_append.1 hp with hp | hp
                      · exact HI.out p hp
                      · rw [List.mem_singleton.1 hp]; exact okP_iff.2 (by simp only; omega)
          · have hke : k = ps.length := by have := HKk.out; omega
            subst hke
            have hf : fineB (m : Int) ps = true := by
              have := HI.out
              rw [List.take_length] at this
              simp only [fineB, Bool.and_eq_true, decide_eq_true_eq, List.all_eq_true, Int.toNat_natCast]
              exact ⟨⟨⟨h0, h1⟩, h2⟩, this⟩
            have HF := Lib.hid hf
            clear hf
            go_wp2
            go_ret
            exact ⟨by rw [HF.out]; rfl, Below.refl _ _⟩
      · have hgt2 : (20000 : Int) < ps.length := by omega
        have hlt1 : ¬ n < 0 := by omega
        have hgt1 : ¬ (3000 : Int) < n := by omega
        have hf : fineB n ps = false := by unfold fineB; simp [h2]
        have HF := Lib.hid hf
        clear hf
        go_enter Try.func32, Try.ntmps32
        go_wp2
        go_ret
        exact ⟨by rw [HF.out]; rfl, Below.refl _ _⟩
    · have hlt1 : ¬ n < 0 := by omega
      have hgt1 : (3000 : Int) < n := by omega
      have hf : fineB n ps = false := by unfold fineB; simp [h1]
      have HF := Lib.hid hf
      clear hf
      go_enter Try.func32, Try.ntmps32
      go_wp2
      go_ret
      exact ⟨by rw [HF.out]; rfl, Below.refl _ _⟩
  · have hlt1 : n < 0 := by omega
    have hf : fineB n ps = false := by unfold fineB; simp [h0]
    have HF := Lib.hid hf
    clear hf
    go_enter Try.func32, Try.ntmps32
    go_wp2
    go_ret
    exact ⟨by rw [HF.out]; rfl, Below.refl _ _⟩
/-- What graphOf hands back: the graph of the pairs. -/
theorem graphOf_any (w : World) (n : Int) {lo hi : Nat} {v : Value} {ps : List (Int × Int)} (h : Prs w lo hi v ps) (hf : fineB n ps = true) :
    Calls Try.prog 33 #[.int .i64 n, v] w fun e w' => Below w.heap.size w w' ∧ ∃ b lo', e = .returned (.pointer (some ⟨b, 0, none⟩)) ∧ w.heap.size ≤ lo' ∧ PG w' lo' w'.heap.size (.pointer (some ⟨b, 0, none⟩)) (Gr.ofPairs n.toNat ps) := by
  obtain ⟨hl, A, c, rfl⟩ := h.form
  simp only [fineB, Bool.and_eq_true, decide_eq_true_eq, List.all_eq_true] at hf
  obtain ⟨⟨⟨h0, h1⟩, h2⟩, h3⟩ := hf
  obtain ⟨m, rfl⟩ := Int.eq_ofNat_of_zero_le h0
  rw [Int.toNat_natCast] at h3 ⊢
  have H3 := Lib.hid h3
  have hm : m ≤ 16777216 := by omega
  have hlen : ps.length * 16 ≤ 140737488351232 := by omega
  clear h3
  go_enter Try.func33, Try.ntmps33
  go_wp2_with (first
    | (go_at_call 34; refine (RPairs_any w h hlen).mono ?_; rintro e w1 ⟨hb, x, rfl, hx⟩; have HB := Lib.hid hb; have HX := Lib.hid (OwnS.sl encP_len (by decide) hx); clear hb hx)
    | (go_at_call 105; refine (Make_in _ m hm HX.out).mono ?_; rintro e w2 ⟨hb, hyes, _⟩; obtain ⟨g, rfl, hg⟩ := hyes H3.out; obtain ⟨b, rfl⟩ := hg.ptr; have HG := Lib.hid hg; have HS := Lib.hid HB.out.size; have HB := Lib.hid (below_then' HB.out hb); clear hb hyes hg)
    | (go_at_call 44; refine (num_any _ _).mono ?_; rintro e w' ⟨rfl, rfl⟩))
  go_ret
  exact ⟨HB.out, b, _, rfl, HS.out, HG.out⟩
end Go.Proofs.Ythbojpaghbbnnaa
