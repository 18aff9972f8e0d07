/- graph.Make. -/
import Derived.Test.YthbojpaghbbnnaaP
namespace Go.Proofs.Ythbojpaghbbnnaa
open Go.RowKit Go.WideMaps Go.Maps
set_option linter.unusedVariables false
set_option linter.unusedSimpArgs false

theorem is_yes (v n : Int) (w : World) (h : 0 ≤ v ∧ v < n) : Calls Try.prog 107 #[.int .i64 v, .int .i64 n] w fun e w' => e = .returned (.bool true) ∧ w = w' :=
  (is_any v n w).mono fun e w' ⟨h1, h2⟩ => ⟨by rw [h1]; simp [h], h2⟩
theorem is_no (v n : Int) (w : World) (h : ¬ (0 ≤ v ∧ v < n)) : Calls Try.prog 107 #[.int .i64 v, .int .i64 n] w fun e w' => e = .returned (.bool false) ∧ w = w' :=
  (is_any v n w).mono fun e w' ⟨h1, h2⟩ => ⟨by
    rw [h1]
    have : (decide (0 ≤ v) && decide (v < n)) = false := by simp; omega
    rw [this], h2⟩
def okP (n : Nat) (p : Int × Int) : Bool := decide (0 ≤ p.1) && decide (p.1 < n) && decide (0 ≤ p.2) && decide (p.2 < n)
theorem okP_iff {n : Nat} {p : Int × Int} : okP n p = true ↔ (0 ≤ p.1 ∧ p.1 < n) ∧ 0 ≤ p.2 ∧ p.2 < n := by simp [okP]; omega
/-- The edges that pairs make, as keys. -/
def stepE (E : List (Int × Int)) (p : Int × Int) : List (Int × Int) := if p.1 = p.2 then E else addE E (min p.1 p.2, max p.1 p.2)
def mkE (ps : List (Int × Int)) : List (Int × Int) := ps.foldl stepE []
theorem mkE_snoc (ps : List (Int × Int)) (p : Int × Int) : mkE (ps ++ [p]) = stepE (mkE ps) p := by simp [mkE, List.foldl_append]
theorem mem_addE {E : List (Int × Int)} {p q : Int × Int} : q ∈ addE E p ↔ q ∈ E ∨ q = p := by
  unfold addE
  split
  · rename_i h
    exact ⟨.inl, fun k => k.elim id (fun e => e ▸ h)⟩
  · simp
theorem mem_mkE (ps : List (Int × Int)) (q : Int × Int) : q ∈ mkE ps ↔ ∃ p ∈ ps, p.1 ≠ p.2 ∧ q = (min p.1 p.2, max p.1 p.2) := by
  suffices h : ∀ (ps : List (Int × Int)) (E : List (Int × Int)), q ∈ ps.foldl stepE E ↔ q ∈ E ∨ ∃ p ∈ ps, p.1 ≠ p.2 ∧ q = (min p.1 p.2, max p.1 p.2) by
    rw [mkE, h]; simp
  intro ps
  induction ps with
  | nil => intro E; simp
  | cons p ps ih =>
    intro E
    rw [List.foldl_cons, ih]
    simp only [stepE]
    by_cases e : p.1 = p.2
    · simp [e]
    · rw [if_neg e, mem_addE]
      simp only [List.mem_cons, exists_eq_or_imp, ne_eq, e, not_false_eq_true, true_and]
      rw [or_assoc]
/-- The graph that pairs make. -/
def Gr.ofPairs (n : Nat) (ps : List (Int × Int)) : Gr := ⟨n, fun u v => decide (u ≠ v) && ps.any (fun p => (decide (p.1 = u) && decide (p.2 = v)) || (decide (p.1 = v) && decide (p.2 = u)))⟩
theorem ofE_mkE (n : Nat) (ps : List (Int × Int)) : Gr.ofE n (mkE ps) = Gr.ofPairs n ps := by
  unfold Gr.ofE Gr.ofPairs
  congr 1
  funext u v
  rw [Bool.eq_iff_iff, decide_eq_true_eq, mem_mkE]
  simp only [Bool.and_eq_true, decide_eq_true_eq, List.any_eq_true, Bool.or_eq_true, Prod.mk.injEq, ne_eq]
  constructor
  · rintro ⟨p, hp, hne, e1, e2⟩
    refine ⟨by omega, p, hp, by omega⟩
  · rintro ⟨hne, p, hp, h⟩
    exact ⟨p, hp, by omega, by omega, by omega⟩
theorem edgy_mkE {n : Nat} {ps : List (Int × Int)} (h : ∀ p ∈ ps, okP n p = true) : Edgy n (mkE ps) := by
  intro q hq
  obtain ⟨p, hp, hne, rfl⟩ := (mem_mkE ps q).1 hq
  have := okP_iff.1 (h p hp)
  simp only
  omega
set_option maxRecDepth 100000 in
set_option maxHeartbeats 4000000 in
theorem Make_out (w : World) (n : Int) (v : Value) (h : n < 0 ∨ 16777216 < n) :
    Calls Try.prog 105 #[.int .i64 n, v] w fun e w' => e = .returned (.tuple #[.pointer none, .int .i64 41]) ∧ Below w.heap.size w w' := by
  rcases h with h | h
  · go_enter Try.func105, Try.ntmps105
    go_wp2
    go_ret2
    exact ⟨rfl, Below.refl _ _⟩
  · have h' : 0 ≤ n := by omega
    go_enter Try.func105, Try.ntmps105
    go_wp2
    go_ret2
    exact ⟨rfl, Below.refl _ _⟩
def MakeInv (w wr : World) (ps : List (Int × Int)) (n k : Nat) : Prop := Below w.heap.size w wr ∧ EMap wr w.heap.size (mkE (ps.take k)) ∧ ∀ p ∈ ps.take k, okP n p = true
set_option maxRecDepth 100000 in
set_option maxHeartbeats 4000000 in
theorem Make_in (w : World) (n : Nat) (hn : n ≤ 16777216) {lo hi : Nat} {v : Value} {ps : List (Int × Int)} (hv : Prs w lo hi v ps) :
    Calls Try.prog 105 #[.int .i64 (n : Int), v] w fun e w' => Below w.heap.size w w' ∧
      ((∀ p ∈ ps, okP n p = true) → ∃ g, e = .returned (.tuple #[g, .int .i64 0]) ∧ PG w' w.heap.size w'.heap.size g (Gr.ofPairs n ps)) ∧
      ((∃ p ∈ ps, okP n p = false) → e = .returned (.tuple #[.pointer none, .int .i64 42])) := by
  obtain ⟨hl, A, c, rfl⟩ := hv.form
  have hmm := @run_makeMap Try.prog
  go_enter Try.func105, Try.ntmps105
  go_wp2
  go_loopg [18] ps.length (fun g s wr => ∃ k : Nat, g + k = ps.length ∧ s = .int .i64 k ∧ Hid (MakeInv w wr ps n k))
  case atStart => exact ⟨0, rfl, rfl, (Below.refl _ _).alloc (Nat.le_refl _) _, EMap.made w, by simp⟩
  case round =>
    clear hmm
    obtain ⟨k, hk, rfl, HI⟩ := hrel
    have HK := Lib.hid hk
    clear hk
    by_cases hlt : k < ps.length
    · have hpv := hv.at_ HI.out.1
      obtain ⟨b, off, p, rfl, _, _, hc, X⟩ := hpv.get encP_len k hlt
      have c0 := hc 0 (by omega)
      have c1 := hc 1 (by omega)
      obtain ⟨x, y⟩ := p
      simp only [encP, Nat.add_zero, List.getElem?_cons_zero, List.getElem?_cons_succ] at c0 c1
      clear hc hpv
      have hst : mkE (ps.take (k + 1)) = stepE (mkE (ps.take k)) (x, y) := by rw [take_snoc' X.out, mkE_snoc]
      have HST := Lib.hid hst
      have hm := HI.out.2.1.lt
      clear hst
      by_cases hx : 0 ≤ x ∧ x < n
      · by_cases hy : 0 ≤ y ∧ y < n
        · by_cases hxy : x = y
          · subst hxy
            go_wp2_with (go_at_call 107; refine (is_yes _ _ _ (by omega)).mono ?_; rintro e w' ⟨rfl, rfl⟩)
            go_roundg (ps.length - (k + 1))
            case measure => have := HK.out; omega
            case rel =>
              refine ⟨k + 1, by omega, by go_num, HI.out.1.alloc HI.out.1.size _, ?_, ?_⟩
              · rw [HST.out, stepE, if_pos rfl]
                exact HI.out.2.1.frame (Below.heap_alloc _ _ _ hm)
              · intro p hp
                rw [take_snoc' X.out] at hp
                rcases List.mem_append.1 hp with hp | hp
                · exact HI.out.2.2 p hp
                · rw [List.mem_singleton.1 hp]; exact okP_iff.2 ⟨hx, hx⟩
          · have hb1 : (x != y) = true := by simpa using hxy
            have hb2 : (x == y) = false := by simpa using hxy
            go_wp2_with (first
              | (go_at_call 107; refine (is_yes _ _ _ (by omega)).mono ?_; rintro e w' ⟨rfl, rfl⟩)
              | (go_at_call 110; refine (key_any _ _ _).mono ?_; rintro e w' ⟨rfl, rfl⟩)
              | (at_mapUpdate; refine wpl_update rfl (.tmp 39) (.tmp 44) _ rfl w.heap.size (min x y) (max x y) rfl rfl rfl ((HI.out.2.1.frame (Below.heap_alloc _ _ _ hm)).frame (Below.heap_alloc _ _ _ (by simp; omega))) (by unfold Wf; omega) (by unfold Wf; omega) ?_; intro w3 hE3 hg3 hs3))
            go_roundg (ps.length - (k + 1))
            case measure => have := HK.out; omega
            case rel =>
              refine ⟨k + 1, by omega, by go_num, ((HI.out.1.alloc HI.out.1.size _).alloc (by have := HI.out.1.size; simp; omega) _).grown hg3 (by have := HI.out.1.size; simp; omega) (fun c hc => by injection hc; omega), ?_, ?_⟩
              · rw [HST.out, stepE, if_neg hxy]
                exact hE3
              · intro p hp
                rw [take_snoc' X.out] at hp
                rcases List.mem_append.1 hp with hp | hp
                · exact HI.out.2.2 p hp
                · rw [List.mem_singleton.1 hp]; exact okP_iff.2 ⟨hx, hy⟩
        · go_wp2_with (go_at_call 107; first | (refine (is_yes _ _ _ (by omega)).mono ?_; rintro e w' ⟨rfl, rfl⟩) | (refine (is_no _ _ _ (by omega)).mono ?_; rintro e w' ⟨rfl, rfl⟩))
          go_ret2
          have hm : (x, y) ∈ ps := List.mem_of_getElem? X.out
          exact ⟨HI.out.1.alloc HI.out.1.size _, fun h => absurd (okP_iff.1 (h _ hm)).2 hy, fun _ => rfl⟩
      · go_wp2_with (go_at_call 107; refine (is_no _ _ _ (by omega)).mono ?_; rintro e w' ⟨rfl, rfl⟩)
        go_ret2
        have hm : (x, y) ∈ ps := List.mem_of_getElem? X.out
        exact ⟨HI.out.1.alloc HI.out.1.size _, fun h => absurd (okP_iff.1 (h _ hm)).1 hx, fun _ => rfl⟩
    · have hk : k = ps.length := by have := HK.out; omega
      have hI := HI.out
      rw [hk, MakeInv, List.take_length] at hI
      have hI' := Lib.hid hI
      clear HI hI hk HK
      go_wp2_with (go_at_call 109; refine (of_any wr n hn w.heap.size w.heap.size (mkE ps) hI'.out.2.1 (edgy_mkE hI'.out.2.2) (Nat.le_refl _)).mono ?_; rintro e w' ⟨hb, g, rfl, hg⟩; have HB := Lib.hid hb; have HG := Lib.hid hg; clear hb hg)
      go_ret2
      refine ⟨below_then' hI'.out.1 HB.out, fun _ => ⟨g, rfl, ?_⟩, fun ⟨p, hp, h⟩ => ?_⟩
      · rw [← ofE_mkE]; exact HG.out
      · rw [hI'.out.2.2 p hp] at h; cases h
end Go.Proofs.Ythbojpaghbbnnaa
