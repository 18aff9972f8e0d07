/- Package graph: Induced. -/
import Derived.Test.YthbojpaghbbnnaaT
namespace Go.Proofs.Ythbojpaghbbnnaa
open Go.RowKit Go.WideMaps Go.Maps
set_option linter.unusedVariables false
set_option linter.unusedSimpArgs false

theorem ofE_of_tells {E : List (Int × Int)} {G : Gr} (hG : G.Ok) (h : Tells E G) : Gr.ofE G.n E = G := by
  obtain ⟨n, adj⟩ := G
  unfold Gr.ofE
  congr 1
  funext u v
  rw [Bool.eq_iff_iff, decide_eq_true_eq, h.2]
  constructor
  · rintro ⟨a, b, e1, e2, hl, hk⟩
    rcases Nat.le_total u v with h1 | h1
    · have : u = a := by omega
      have : v = b := by omega
      subst_vars
      exact hk
    · have e3 : v = a := by omega
      have e4 : u = b := by omega
      rw [e3, e4]
      exact (hG.symm b a).trans hk
  · intro hk
    have hk' : (⟨n, adj⟩ : Gr).adj u v = true := hk
    have hne : u ≠ v := fun e => by rw [e, hG.irr] at hk'; cases hk'
    rcases Nat.lt_or_gt_of_ne hne with h1 | h1
    · exact ⟨u, v, by omega, by omega, h1, hk⟩
    · exact ⟨v, u, by omega, by omega, h1, by rw [hG.symm]; exact hk⟩
theorem tells_edgy {E : List (Int × Int)} {G : Gr} (hG : G.Ok) (h : Tells E G) : Edgy G.n E := by
  rintro ⟨a, b⟩ hp
  obtain ⟨u, v, rfl, rfl, hl, hk⟩ := (h.2 a b).1 hp
  have := hG.rng' hk
  simp only
  omega
/-- The graph of the same vertices with the edges between two that are kept. -/
def Gr.induced (G : Gr) (keep : List Bool) : Gr := ⟨G.n, fun u v => G.adj u v && (keep.getD u false && keep.getD v false)⟩
theorem induced_ok {G : Gr} (h : G.Ok) (keep : List Bool) : (G.induced keep).Ok where
  symm u v := by
    show (G.adj u v && (keep.getD u false && keep.getD v false)) = (G.adj v u && (keep.getD v false && keep.getD u false))
    rw [h.symm u v, Bool.and_comm (keep.getD u false)]
  irr u := by simp [Gr.induced, h.irr]
  rng u v k := by
    simp only [Gr.induced, Bool.and_eq_true] at k
    exact h.rng u v k.1
  small := h.small
def keptK (keep : List Bool) (p : Int × Int) : Bool := keep.getD p.1.toNat false && keep.getD p.2.toNat false
theorem induced_tells {E E' : List (Int × Int)} {G : Gr} {keep : List Bool} (h : Tells E G) (hd : E'.Nodup) (hm : ∀ q, q ∈ E' ↔ q ∈ E ∧ keptK keep q = true) : Tells E' (G.induced keep) := by
  refine ⟨hd, fun a b => ?_⟩
  rw [hm, h.2]
  constructor
  · rintro ⟨⟨u, v, rfl, rfl, hl, hk⟩, hq⟩
    refine ⟨u, v, rfl, rfl, hl, ?_⟩
    simp only [keptK, Int.toNat_natCast] at hq
    simp only [Gr.induced, hk, hq, Bool.and_self]
  · rintro ⟨u, v, rfl, rfl, hl, hk⟩
    simp only [Gr.induced, Bool.and_eq_true] at hk
    exact ⟨⟨u, v, rfl, rfl, hl, hk.1⟩, by simp only [keptK, Int.toNat_natCast, hk.2.1, hk.2.2, Bool.and_self]⟩
theorem kept_is (w : World) {lo hi : Nat} {a : Value} {xs : List Bool} (ha : Bools w lo hi a xs) (v : Int) (h0 : 0 ≤ v) (h1 : v ≤ 9223372036854775807) (r : Bool) (hr : xs.getD v.toNat false = r) :
    Calls Try.prog 106 #[a, .int .i64 v] w fun e w' => e = .returned (.bool r) ∧ w = w' := by rw [← hr]; exact kept_any w ha v h0 h1
def IndInv (w wr : World) (m mb r : Nat) (E L : List (Int × Int)) (keep : List Bool) (E' : List (Int × Int)) : Prop :=
  Below w.heap.size w wr ∧ Rng wr m r L ∧ EMap wr mb E' ∧ (∀ p ∈ L, p ∈ E) ∧ (∀ q, q ∈ E' ↔ q ∈ E ∧ q ∉ L ∧ keptK keep q = true) ∧ r < wr.heap.size
set_option maxRecDepth 100000 in
set_option maxHeartbeats 4000000 in
theorem Induced_any (w : World) {lo hi lo' hi' : Nat} {g kv' : Value} {G : Gr} {keep : List Bool} (h : PG w lo hi g G) (hk : Bools w lo' hi' kv' keep) :
    Calls Try.prog 40 #[g, kv'] w fun e w' => Below w.heap.size w w' ∧ ∃ x, e = .returned x ∧ PG w' w.heap.size w'.heap.size x (G.induced keep) := by
  obtain ⟨b, m, t, c, E, rfl, hc⟩ := h.open_
  obtain ⟨hkl, A, cc, rfl⟩ := hk.form
  have HC := Lib.hid hc
  have HK := Lib.hid hk
  have c1 : (w.alloc (.map #[] 0)).cell? ⟨b, 1, none⟩ = some (.map (some m)) := (World.cell?_of_block (w := w) (Below.heap_alloc w _ b hc.lt)).trans hc.c1
  have hmm := @run_makeMap Try.prog
  have hml := hc.map.lt
  have hsm := hc.ok.small
  clear hc h hk
  go_enter Try.func40, Try.ntmps40
  go_wp2_with (at_range; refine wpl_range rfl (.tmp 11) rfl m (w.heap.size + 1) (by simp) rfl (HC.out.map.frame (Below.heap_alloc w _ m hml)) ?_; intro w2 hrg hg2 hs2)
  go_frame
  go_loopg [6] E.length (fun k s wr => ∃ L E', Hid (L.length = k) ∧ Hid (IndInv w wr m w.heap.size (w.heap.size + 1) E L keep E'))
  case atStart =>
    refine ⟨E, [], rfl, ?_, hrg, ?_, fun p hp => hp, fun q => by simp; intro a b; exact absurd a b, by omega⟩
    · exact ((Below.refl _ _).alloc (Nat.le_refl _) _).grown hg2 (by simp) (by simp)
    · exact (EMap.made w).frame (hg2.block _ (by simp) (by simp))
  case round =>
    clear hmm c1 hrg hg2 hs2
    obtain ⟨L, E', HL, HI⟩ := hrel
    have hrg1 := HI.out.2.1
    go_wp2_with (at_next; refine wpl_next rfl (.tmp 12) rfl m (w.heap.size + 1) rfl hrg1 ?_ ?_)
    · intro hL
      subst hL
      have c0 := (HC.out.at_ HI.out.1).c0
      have ht : Hid (Tells E' (G.induced keep)) := induced_tells HC.out.tells HI.out.2.2.1.nodup (fun q => by rw [HI.out.2.2.2.2.1]; simp)
      have hok := induced_ok HC.out.ok keep
      have HOK := Lib.hid hok
      have hed : Edgy G.n E' := tells_edgy (G := G.induced keep) HOK.out ht.out
      have HED := Lib.hid hed
      clear hed hok hrg1
      go_wp2_with (go_at_call 109; refine (of_any wr G.n hsm w.heap.size w.heap.size E' HI.out.2.2.1 (HED.out) (Nat.le_refl _)).mono ?_; rintro e w' ⟨hb, g, rfl, hg⟩; have HB := Lib.hid hb; have HG := Lib.hid hg; clear hb hg)
      go_ret
      refine ⟨below_then' HI.out.1 HB.out, g, rfl, ?_⟩
      have e := ofE_of_tells HOK.out ht.out
      rw [← e]
      exact HG.out
    · intro x y w3 hp hrg3 hg3 hs3 hen
      obtain ⟨hp0, hp1, hp2⟩ := (tells_edgy HC.out.ok HC.out.tells) (x, y) (HI.out.2.2.2.1 _ hp)
      simp only at hp0 hp1 hp2
      have hB3 : Below w.heap.size w w3 := HI.out.1.grown hg3 HI.out.1.size (fun c hc => by injection hc; omega)
      have hE3 : EMap w3 w.heap.size E' := HI.out.2.2.1.frame (hg3.block _ HI.out.2.2.1.lt (by intro e; injection e; omega))
      have hmb := hE3.lt
      have hr3 := hrg3.lt
      have HB3 := Lib.hid hB3
      have HE3 := Lib.hid hE3
      have HR3 := Lib.hid hrg3
      have HS3 := Lib.hid hs3
      have HP := Lib.hid hp
      clear hB3 hE3 hrg3 hg3 hs3 hrg1 hp
      have hx9 : x ≤ 9223372036854775807 := by omega
      have hy9 : y ≤ 9223372036854775807 := by omega
      unfold kv at hen ⊢
      have hK4 : ∀ o, Bools (w3.alloc o) lo' hi' (.slice A keep.length cc) keep := fun o => HK.out.at_ (HB3.out.alloc HB3.out.size o)
      have HK4 := Lib.hid hK4
      clear hK4
      have hy0 : 0 ≤ y := by omega
      have hmem : ∀ q, q ∈ E ∧ q ∉ less L (x, y) ∧ keptK keep q = true ↔ q ∈ E' ∨ (q = (x, y) ∧ keptK keep q = true) := by
        intro q
        rw [HI.out.2.2.2.2.1, mem_less]
        constructor
        · rintro ⟨a1, a2, a3⟩
          by_cases e : q = (x, y)
          · exact .inr ⟨e, a3⟩
          · exact .inl ⟨a1, fun h => a2 ⟨h, e⟩, a3⟩
        · rintro (⟨a1, a2, a3⟩ | ⟨rfl, a3⟩)
          · exact ⟨a1, fun h => a2 h.1, a3⟩
          · exact ⟨HI.out.2.2.2.1 _ HP.out, fun h => h.2 rfl, a3⟩
      have HM := Lib.hid hmem
      clear hmem
      cases hkx : keep.getD x.toNat false with
      | false =>
        have HX := Lib.hid hkx
        clear hkx
        go_wp2_with (go_at_call 106; refine (kept_is _ (HK4.out _) x hp0 hx9 false HX.out).mono ?_; rintro e w' ⟨rfl, rfl⟩)
        go_roundg (less L (x, y)).length
        case measure => have := less_lt HP.out; have := HL.out; omega
        case rel =>
          refine ⟨_, E', rfl, HB3.out.alloc HB3.out.size _, HR3.out.frame (Below.heap_alloc _ _ _ hr3.1) (Below.heap_alloc _ _ _ hr3.2), HE3.out.frame (Below.heap_alloc _ _ _ hmb), fun p hp => HI.out.2.2.2.1 p (mem_less.1 hp).1, fun q => ?_, by simp; omega⟩
          rw [HM.out]
          refine ⟨.inl, fun h => h.elim id (fun h => ?_)⟩
          have := h.2
          rw [h.1, keptK, HX.out] at this
          cases this
      | true =>
        have HX := Lib.hid hkx
        clear hkx
        cases hky : keep.getD y.toNat false with
        | false =>
          have HY := Lib.hid hky
          clear hky
          go_wp2_with (go_at_call 106; first | (with_reducible refine (kept_is _ (HK4.out _) x hp0 hx9 true HX.out).mono ?_; rintro e w' ⟨rfl, rfl⟩) | (with_reducible refine (kept_is _ (HK4.out _) y hy0 hy9 false HY.out).mono ?_; rintro e w' ⟨rfl, rfl⟩))
          go_roundg (less L (x, y)).length
          case measure => have := less_lt HP.out; have := HL.out; omega
          case rel =>
            refine ⟨_, E', rfl, HB3.out.alloc HB3.out.size _, HR3.out.frame (Below.heap_alloc _ _ _ hr3.1) (Below.heap_alloc _ _ _ hr3.2), HE3.out.frame (Below.heap_alloc _ _ _ hmb), fun p hp => HI.out.2.2.2.1 p (mem_less.1 hp).1, fun q => ?_, by simp; omega⟩
            rw [HM.out]
            refine ⟨.inl, fun h => h.elim id (fun h => ?_)⟩
            have := h.2
            rw [h.1, keptK, HY.out] at this
            simp at this
        | true =>
          have HY := Lib.hid hky
          clear hky
          go_wp2_with (first
            | (go_at_call 106; first | (with_reducible refine (kept_is _ (HK4.out _) x hp0 hx9 true HX.out).mono ?_; rintro e w' ⟨rfl, rfl⟩) | (with_reducible refine (kept_is _ (HK4.out _) y hy0 hy9 true HY.out).mono ?_; rintro e w' ⟨rfl, rfl⟩))
            | (at_mapUpdate; refine wpl_update rfl (.tmp 27) (.tmp 28) _ rfl w.heap.size x y rfl rfl rfl (HE3.out.frame (Below.heap_alloc _ _ _ hmb)) (by unfold Wf; omega) (by unfold Wf; omega) ?_; intro w4 hE4 hg4 hs4))
          go_roundg (less L (x, y)).length
          case measure => have := less_lt HP.out; have := HL.out; omega
          case rel =>
            have hR4 := HR3.out.frame (w' := w3.alloc (.cells #[.int .i64 x, .int .i64 y] 121)) (Below.heap_alloc _ _ _ hr3.1) (Below.heap_alloc _ _ _ hr3.2)
            refine ⟨_, addE E' (x, y), rfl, (HB3.out.alloc HB3.out.size _).grown hg4 (by have := HB3.out.size; simp; omega) (fun c hc => by injection hc; omega), hR4.frame (hg4.block _ hR4.lt.1 (by intro e; injection e; omega)) (hg4.block _ hR4.lt.2 (by intro e; injection e; omega)), hE4, fun p hp => HI.out.2.2.2.1 p (mem_less.1 hp).1, fun q => ?_, by rw [hs4]; simp; omega⟩
            rw [HM.out, mem_addE]
            refine ⟨fun h => h.imp id (fun e => ⟨e, ?_⟩), fun h => h.imp id (fun e => e.1)⟩
            rw [e, keptK, HX.out, HY.out]
            rfl
end Go.Proofs.Ythbojpaghbbnnaa
