/- Package pithlaw7: made. -/
import Derived.Test.YthbojpaghbbnnaaHF
namespace Go.Proofs.Ythbojpaghbbnnaa
open Go.RowKit
set_option linter.unusedVariables false
set_option linter.unusedSimpArgs false
/-- A number brought among the first n. -/
def md (n : Nat) (x : Int) : Int := Int.tmod (Int.tmod x (n : Int) + (n : Int)) (n : Int)
theorem tmod_rng (x : Int) {n : Int} (h : 0 < n) : -n < Int.tmod x n ∧ Int.tmod x n < n := by
  have g1 := Int.tmod_lt_of_pos x h
  have := Int.tmod_lt_of_pos (-x) h
  rw [Int.neg_tmod] at this
  omega
theorem md_rng {n : Nat} (h : 0 < n) (x : Int) : 0 ≤ md n x ∧ md n x < n := by
  have h1 := tmod_rng x (n := (n : Int)) (by omega)
  have g3 := Int.tmod_lt_of_pos (Int.tmod x (n : Int) + (n : Int)) (show (0 : Int) < n by omega)
  have g4 := Int.tmod_nonneg (n : Int) (show 0 ≤ Int.tmod x (n : Int) + (n : Int) by omega)
  exact ⟨g4, g3⟩
def mods (n : Nat) (ps : List (Int × Int)) : List (Int × Int) := if n = 0 then [] else ps.map (fun p => (md n p.1, md n p.2))
theorem mods_snoc {n : Nat} (hn : 0 < n) {ps : List (Int × Int)} {k : Nat} {x y : Int} (h : ps[k]? = some (x, y)) : mods n (ps.take (k + 1)) = mods n (ps.take k) ++ [(md n x, md n y)] := by
  unfold mods
  rw [if_neg (by omega), if_neg (by omega), List.take_add_one, h]
  simp
theorem mods_ok {n : Nat} (hn : 0 < n) {ps : List (Int × Int)} : ∀ p ∈ mods n ps, okP n p = true := by
  intro p hp
  unfold mods at hp
  rw [if_neg (by omega)] at hp
  obtain ⟨q, _, rfl⟩ := List.mem_map.1 hp
  have a := md_rng hn q.1
  have b := md_rng hn q.2
  simp [okP, a, b]
theorem own_mono {w : World} {base base' sz n : Nat} {e : TypeId} {v : Value} {xs : List Value} (h : w.ownsRow base e sz v n xs) (hb : base' ≤ base) : w.ownsRow base' e sz v n xs := by
  rcases h with ⟨h1, h2 | ⟨g, cap, cur, e1, e2, e3⟩⟩
  · exact ⟨h1, .inl h2⟩
  · exact ⟨h1, .inr ⟨g, cap, cur, e1, by omega, e3⟩⟩
theorem own_slice {w : World} {base sz n : Nat} {e : TypeId} {v : Value} {xs : List Value} (h : w.ownsRow base e sz v n xs) : ∃ A c, v = .slice A n c := by
  rcases h.2 with ⟨rfl, rfl⟩ | ⟨g, cap, cur, rfl, _⟩
  · exact ⟨_, _, rfl⟩
  · exact ⟨_, _, rfl⟩
set_option maxRecDepth 100000 in
set_option maxHeartbeats 8000000 in
theorem made_no (w : World) (n : Int) {lo hi : Nat} {v : Value} {ps : List (Int × Int)} (h : Prs w lo hi v ps) (hn : n < 0 ∨ 400 < n ∨ 4000 < ps.length) :
    Calls Try.prog 70 #[.int .i64 n, v] w fun e w' => e = .returned (.tuple #[.pointer none, .slice none 0 0]) ∧ Below w.heap.size w w' := by
  obtain ⟨_, A, c, rfl⟩ := h.form
  clear h
  by_cases h1 : n < 0
  · go_enter Try.func70, Try.ntmps70
    go_wp2
    all_goals (go_ret2; exact ⟨rfl, Below.refl _ _⟩)
  · by_cases h2 : 400 < n
    · go_enter Try.func70, Try.ntmps70
      go_wp2
      all_goals (go_ret2; exact ⟨rfl, Below.refl _ _⟩)
    · have h3 : 4000 < ps.length := by omega
      go_enter Try.func70, Try.ntmps70
      go_wp2
      all_goals (go_ret2; exact ⟨rfl, Below.refl _ _⟩)
set_option maxRecDepth 100000 in
set_option maxHeartbeats 8000000 in
theorem made_pos (w : World) (n : Nat) (hn0 : 0 < n) (hn : n ≤ 400) {lo hi : Nat} {v : Value} {ps : List (Int × Int)} (h : Prs w lo hi v ps) (hl : ps.length ≤ 4000) :
    Calls Try.prog 70 #[.int .i64 (n : Int), v] w fun e w' => Below w.heap.size w w' ∧ ∃ g lo1 hi1 tb base vs, e = .returned (.tuple #[g, .slice (some ⟨tb, 0, none⟩) n n]) ∧ w.heap.size ≤ lo1 ∧ PG w' lo1 hi1 g (Gr.ofPairs n (mods n ps)) ∧ w.heap.size ≤ tb ∧ tb < base ∧
      RowsAt w' base tb n (fun v => up ((Gr.ofPairs n (mods n ps)).nb v)) vs := by
  obtain ⟨_, A, c, rfl⟩ := h.form
  have H := Lib.hid h
  clear h
  obtain ⟨i0, hi, hz0, hz1, hz2⟩ := info_parts infoPair
  have HI0 : Hid (Try.prog.info? 32 = some i0 ∧ i0.zero = some (.agg #[.int .i64 0, .int .i64 0]) ∧ i0.size = 2 ∧ i0.bytes = 16) := ⟨hi, hz0, hz1, hz2⟩
  clear hi hz0 hz1 hz2
  go_enter Try.func70, Try.ntmps70
  go_wp2
  go_loopg [6, 7] ps.length (fun d v s wr => ∃ k : Nat, d + k = ps.length ∧ s = .int .i64 (k : Int) ∧ Hid (Below w.heap.size w wr ∧ wr.ownsRow w.heap.size 32 2 v (mods n (ps.take k)).length ((mods n (ps.take k)).flatMap encP)))
  case atStart => exact ⟨0, rfl, rfl, Below.refl _ _, by have : mods n (ps.take 0) = [] := by unfold mods; split <;> rfl
                                                         rw [this]; exact World.ownsRow_nil _ _ _ _⟩
  case round =>
    obtain ⟨k, hk, rfl, HI⟩ := hrel
    have HK := Lib.hid hk
    clear hk
    by_cases hlt : k < ps.length
    · obtain ⟨b, off, x, rfl, _, hb, g0, HX⟩ := H.out.get encP_len k hlt
      have q0 := (HI.out.1.cell (p := ⟨b, off + k * 2 + 0, none⟩) (Nat.lt_of_lt_of_le hb H.out.1)).trans (g0 0 (by decide))
      have q1 := (HI.out.1.cell (p := ⟨b, off + k * 2 + 1, none⟩) (Nat.lt_of_lt_of_le hb H.out.1)).trans (g0 1 (by decide))
      clear g0
      obtain ⟨px, py⟩ := x
      simp only [encP, List.getElem?_cons_zero, List.getElem?_cons_succ, Nat.add_zero] at q0 q1
      have t1 := tmod_rng px (n := (n : Int)) (by omega)
      have t2 := tmod_rng py (n := (n : Int)) (by omega)
      have hx := HX.out
      go_wp2
      obtain ⟨W8, hW8⟩ : ∃ W, W = wr.alloc (.cells #[.int .i64 px, .int .i64 py] 32) := ⟨_, rfl⟩
      rw [← hW8]
      have P8 : Hid (W8.heap[wr.heap.size]? = some (.cells #[.int .i64 px, .int .i64 py] 32 (0, 0))) := by rw [hW8]; exact heap_alloc_new _ _
      have B8 : Hid (Below w.heap.size w W8) := by rw [hW8]; exact HI.out.1.alloc HI.out.1.size _
      have O8 : Hid (W8.ownsRow w.heap.size 32 2 u6 (mods n (ps.take k)).length ((mods n (ps.take k)).flatMap encP)) := by rw [hW8]; exact HI.out.2.alloc _
      have c0 := cell_of P8.out 0
      have c1 := cell_of P8.out 1
      simp only [List.getElem?_toArray, List.getElem?_cons_zero, List.getElem?_cons_succ] at c0 c1
      have wl : wr.heap.size < W8.heap.size := by rw [hW8]; simp
      clear hW8
      refine region_T (by kernel_rfl) (fun w' => w'.cell? ⟨wr.heap.size, 0, none⟩ = some (.int .i64 px) ∧ w'.cell? ⟨wr.heap.size, 1, none⟩ = some (.int .i64 py)) 20 ⟨c0, c1⟩ (fun HS => ?_)
      change anyT _ _ _ _ _ _ 21 _ _ _
      refine takeT (i := 0) (v := ?_) rfl rfl (by kernel_rfl) (fun _ _ _ h => h) rfl ?_ HS ?_
      rotate_left
      · intro w' hS'
        obtain ⟨s0, s1⟩ := hS'
        go_simp
        rfl
      rotate_left
      go_frame
      refine takeT (i := 1) (v := ?_) rfl rfl (by kernel_rfl) (fun _ _ _ h => h) rfl ?_ HS ?_
      rotate_left
      · intro w' hS'
        obtain ⟨s0, s1⟩ := hS'
        go_simp
        rfl
      rotate_left
      go_frame
      refine takeT (i := 2) (v := ?_) rfl rfl (by kernel_rfl) (fun _ _ _ h => h) rfl ?_ HS ?_
      rotate_left
      · intro w' hS'
        obtain ⟨s0, s1⟩ := hS'
        go_simp
        rfl
      rotate_left
      go_frame
      refine takeT (i := 3) (v := ?_) rfl rfl (by kernel_rfl) (fun _ _ _ h => h) rfl ?_ HS ?_
      rotate_left
      · intro w' hS'
        obtain ⟨s0, s1⟩ := hS'
        go_simp
        rfl
      rotate_left
      go_frame
      refine takeT (i := 4) (v := ?_) rfl rfl (by kernel_rfl) (fun _ _ _ h => h) rfl ?_ HS ?_
      rotate_left
      · intro w' hS'
        obtain ⟨s0, s1⟩ := hS'
        go_simp
        rw [if_neg (by omega)]
      rotate_left
      go_frame
      refine takeT (i := 5) (v := ?_) rfl rfl (by kernel_rfl) (fun _ _ _ h => h) rfl ?_ HS ?_
      rotate_left
      · intro w' hS'
        obtain ⟨s0, s1⟩ := hS'
        go_simp
        rfl
      rotate_left
      go_frame
      refine takeT (i := 6) (v := ?_) rfl rfl (by kernel_rfl) (fun _ _ _ h => h) rfl ?_ HS ?_
      rotate_left
      · intro w' hS'
        obtain ⟨s0, s1⟩ := hS'
        go_simp
        rfl
      rotate_left
      go_frame
      refine takeT (i := 7) (v := ?_) rfl rfl (by kernel_rfl) (fun _ _ _ h => h) rfl ?_ HS ?_
      rotate_left
      · intro w' hS'
        obtain ⟨s0, s1⟩ := hS'
        go_simp
        rfl
      rotate_left
      go_frame
      refine takeT (i := 8) (v := ?_) rfl rfl (by kernel_rfl) (fun _ _ _ h => h) rfl ?_ HS ?_
      rotate_left
      · intro w' hS'
        obtain ⟨s0, s1⟩ := hS'
        go_simp
        rw [if_neg (by omega)]
      rotate_left
      go_frame
      refine takeT (i := 9) (v := ?_) rfl rfl (by kernel_rfl) (fun _ _ _ h => h) rfl ?_ HS ?_
      rotate_left
      · intro w' hS'
        obtain ⟨s0, s1⟩ := hS'
        go_simp
        rfl
      rotate_left
      go_frame
      refine takeT (i := 10) (v := ?_) rfl rfl (by kernel_rfl) (fun _ _ _ h => h) rfl ?_ HS ?_
      rotate_left
      · intro w' hS'
        obtain ⟨s0, s1⟩ := hS'
        go_simp
        rfl
      rotate_left
      go_frame
      refine takeT (i := 11) (v := ?_) rfl rfl (by kernel_rfl) (fun _ _ _ h => h) rfl ?_ HS ?_
      rotate_left
      · intro w' hS'
        obtain ⟨s0, s1⟩ := hS'
        go_simp
        rfl
      rotate_left
      go_frame
      refine takeT (i := 12) (v := ?_) rfl rfl (by kernel_rfl) (fun _ _ _ h => h) rfl ?_ HS ?_
      rotate_left
      · intro w' hS'
        obtain ⟨s0, s1⟩ := hS'
        go_simp
        rw [if_neg (by omega)]
      rotate_left
      go_frame
      refine takeT (i := 13) (v := ?_) rfl rfl (by kernel_rfl) (fun _ _ _ h => h) rfl ?_ HS ?_
      rotate_left
      · intro w' hS'
        obtain ⟨s0, s1⟩ := hS'
        go_simp
        rfl
      rotate_left
      go_frame
      refine takeT (i := 14) (v := ?_) rfl rfl (by kernel_rfl) (fun _ _ _ h => h) rfl ?_ HS ?_
      rotate_left
      · intro w' hS'
        obtain ⟨s0, s1⟩ := hS'
        go_simp
        rfl
      rotate_left
      go_frame
      refine takeT (i := 15) (v := ?_) rfl rfl (by kernel_rfl) (fun _ _ _ h => h) rfl ?_ HS ?_
      rotate_left
      · intro w' hS'
        obtain ⟨s0, s1⟩ := hS'
        go_simp
        rfl
      rotate_left
      go_frame
      refine takeT (i := 16) (v := ?_) rfl rfl (by kernel_rfl) (fun _ _ _ h => h) rfl ?_ HS ?_
      rotate_left
      · intro w' hS'
        obtain ⟨s0, s1⟩ := hS'
        go_simp
        rw [if_neg (by omega)]
      rotate_left
      go_frame
      refine takeT (i := 17) (v := ?_) rfl rfl (by kernel_rfl) (fun _ _ _ h => h) rfl ?_ HS ?_
      rotate_left
      · intro w' hS'
        obtain ⟨s0, s1⟩ := hS'
        go_simp
        rfl
      rotate_left
      go_frame
      have m1 : IntKind.i64.wrap (px.tmod n + n) = px.tmod n + n := by rw [IntKind.wrap_i64]; omega
      have m2 : IntKind.i64.wrap (py.tmod n + n) = py.tmod n + n := by rw [IntKind.wrap_i64]; omega
      rw [m1, m2]
      have une : some wr.heap.size ≠ u6.ownBlock := fun e => by have := HI.out.2.lt _ e.symm; omega
      have UN := Lib.hid une
      clear une m1 m2
      refine oneT (i := 18) rfl (by kernel_rfl) (fun K hK => ?_)
      go_simp
      refine hK.out _ _ (fun _ => ?_) ?_
      · exact ⟨(World.cell?_of_block (w := W8) (Below.heap_alloc W8 _ _ wl)).trans c0, (World.cell?_of_block (w := W8) (Below.heap_alloc W8 _ _ wl)).trans c1⟩
      clear hK K
      refine oneT (i := 19) rfl (by kernel_rfl) (fun K hK => ?_)
      have hmo : (mods n (ps.take k)).length ≤ 4000 := by unfold mods; split <;> simp <;> omega
      refine step_append_lies _ (by rfl) (.tmp 42) (.tmp 60) 23 (by rfl) w.heap.size 32 i0 (.agg #[.int .i64 0, .int .i64 0]) 2 16 Try.underlying23 HI0.out.1 HI0.out.2.1 HI0.out.2.2.1 HI0.out.2.2.2 rfl (by decide) u6 _ _ (by rfl) (O8.out.alloc _).drew ⟨W8.heap.size, 0, none⟩ 1 1 (encP (md n px, md n py)) (by rfl) rfl (World.news_of_block (cs := #[.int .i64 (md n px), .int .i64 (md n py)]) (t := 32) (fr := (0, 0)) (heap_alloc_new W8 _)) (by simp [encP, Value.oneCell']) (by decide) (by unfold maxLen; omega) (by omega) (by have := B8.out.size; simp; omega) (W8.heap.size + 1) (by simp) ?_
      intro g0 cap0 V0 hown0 hg0 hat0 hlt0
      have c0' := far_cell hg0 c0 UN.out
      have c1' := far_cell hg0 c1 UN.out
      refine hK.out _ _ (fun _ => ⟨c0', c1'⟩) ?_
      clear hK K
      have BV : Hid (Below w.heap.size w V0) := ((B8.out.alloc B8.out.size _).drew).grown hg0 (by have := B8.out.size; simp; omega) (fun c hc => (O8.out.lt c hc).1)
      have OV' : V0.ownsRow w.heap.size 32 2 (.slice (some ⟨g0, 0, none⟩) ((mods n (ps.take k)).length + 1) cap0) (mods n (ps.take (k + 1))).length ((mods n (ps.take (k + 1))).flatMap encP) := by
        rw [mods_snoc hn0 HX.out, List.flatMap_append, List.length_append]
        simpa using hown0
      have OV := Lib.hid OV'
      clear OV'
      clear hg0 hown0 hat0 hlt0 c0' c1' c0 c1 HS
      go_frame
      refine oneT (i := 20) rfl (by kernel_rfl) (fun K hK => ?_)
      go_simp
      refine hK.out _ _ (fun h => absurd rfl h) ?_
      clear hK K
      refine doneT (by kernel_rfl) ?_ 0
      go_wp2
      go_roundg (ps.length - (k + 1))
      case measure => have := HK.out; omega
      case rel => exact ⟨k + 1, by have := HK.out; omega, by go_num, BV.out, OV.out⟩
    · have hkL : k = ps.length := by have := HK.out; omega
      subst hkL
      obtain ⟨W, hW⟩ : ∃ W, W = wr := ⟨_, rfl⟩
      rw [List.take_length] at HI
      have s0 := HI.out.1.size
      have SP : Hid (Prs wr w.heap.size wr.heap.size u6 (mods n ps)) := sl_own HI.out.2
      go_wp2_with (first
        | (go_at_call 105; refine (Make_in _ n (by omega) SP.out).mono ?_; rintro e w9 ⟨hb9, hx9, -⟩; obtain ⟨g, rfl, hg9⟩ := hx9 (mods_ok hn0); have B9 := Lib.hid (below_then' HI.out.1 hb9); have G9 := Lib.hid hg9; have S9 := Lib.hid (SP.out.at_ hb9); have s9 := hb9.size; clear hb9 hx9 hg9)
        | (at_make; refine mk_full (W := w9) w9.heap.size rfl (.tmp 68) (.tmp 68) 136 24 _ 24 rfl Try.underlying136 infoBools rfl (by decide) _ _ n rfl rfl rfl rfl (by omega) (Nat.le_refl _) ?_; intro w10 hown10 hgr10))
      have B10 : Hid (Below w9.heap.size w9 w10) := (Below.refl _ _).grown hgr10 (Nat.le_refl _) (by simp)
      have M10 : Hid (Mat w10 w9.heap.size [] n (fun _ _ => false)) := Mat.start hown10
      clear hown10 hgr10
      go_loopg [12] n (fun d s wx => ∃ bs : List Nat, d + bs.length = n ∧ s = .int .i64 (bs.length : Int) ∧ Hid (Below w9.heap.size w9 wx ∧ Mat wx w9.heap.size bs n (fun _ _ => false)))
      case atStart => exact ⟨[], rfl, rfl, B10.out, M10.out⟩
      case round =>
        obtain ⟨bs, hd, rfl, HX⟩ := hrel
        have HD := Lib.hid hd
        clear hd
        by_cases hlt : bs.length < n
        · have hbl := HX.out.2.lt.1
          go_wp2_with (at_make; refine mk_full (W := wr) wr.heap.size rfl (.tmp 77) (.tmp 77) 24 4 _ 1 rfl Try.underlying24 infoBool rfl (by decide) _ _ n rfl rfl rfl rfl (by omega) (Nat.le_refl _) ?_; intro w1 ho hg; have ht := (hg.block _ hbl (by simp)).trans HX.out.2.top; have q1 : w1.cell? ⟨w9.heap.size, bs.length, none⟩ = some (.slice none 0 0) := (by rw [cell_of ht]; simp [List.getElem?_append, List.getElem?_replicate]; omega); have f1 := free_of ht bs.length; have HO := Lib.hid ho; have HG := Lib.hid hg; clear ho hg ht)
          go_roundg (n - (bs.length + 1))
          case measure => have := HD.out; omega
          case rel =>
            refine ⟨bs ++ [wr.heap.size], by simp; omega, by simp, (HX.out.1.grown HG.out HX.out.1.size (by simp)).setCell (Nat.le_refl _) _, HX.out.2.push hlt HG.out HO.out⟩
        · have hbn : bs.length = n := by have := HX.out.2.le; omega
          obtain ⟨W1, hW1⟩ : ∃ W, W = wr := ⟨_, rfl⟩
          have M1 : Hid (Mat wr w9.heap.size bs n (Gr.ofPairs n ((mods n ps).take 0)).adj) := by
            have e : (Gr.ofPairs n ((mods n ps).take 0)).adj = fun _ _ => false := by
              funext p q
              simp [Gr.ofPairs]
            rw [e]
            exact HX.out.2
          have B1 : Hid (Below w9.heap.size w9 wr) := HX.out.1
          clear HX HD
          have hlm : (mods n ps).length = ps.length := by unfold mods; rw [if_neg (by omega)]; simp
          have HLM := Lib.hid hlm
          have hl4 : (mods n ps).length ≤ 4000 := by omega
          clear hlm
          rw [hbn]
          obtain ⟨_, A6, c6, e6⟩ := S9.out.form
          subst e6
          go_wp2
          go_loopg [13] (mods n ps).length (fun d s wx => ∃ k : Nat, d + k = (mods n ps).length ∧ s = .int .i64 (k : Int) ∧ Hid (Below w9.heap.size w9 wx ∧ Mat wx w9.heap.size bs n (Gr.ofPairs n ((mods n ps).take k)).adj))
          case atStart => exact ⟨0, rfl, rfl, B1.out, M1.out⟩
          case round =>
            obtain ⟨k, hk, rfl, HX⟩ := hrel
            have HK := Lib.hid hk
            clear hk
            by_cases hlt : k < (mods n ps).length
            · obtain ⟨b, off, x, rfl, _, hb, g0, HP⟩ := (S9.out.at_ HX.out.1).get encP_len k hlt
              have q0 := g0 0 (by decide)
              have q1 := g0 1 (by decide)
              clear g0
              have ho := mods_ok hn0 x (List.mem_of_getElem? HP)
              have hsn : (mods n ps).take (k + 1) = (mods n ps).take k ++ [x] := by rw [List.take_add_one, HP]; rfl
              obtain ⟨x, y⟩ := x
              obtain ⟨⟨hx0, hx1⟩, hy0, hy1⟩ := okP_iff.1 ho
              simp only at hx0 hx1 hy0 hy1
              obtain ⟨i, rfl⟩ := Int.eq_ofNat_of_zero_le hx0
              obtain ⟨j, rfl⟩ := Int.eq_ofNat_of_zero_le hy0
              have hin : i < n := by omega
              have hjn : j < n := by omega
              clear hx0 hx1 hy0 hy1 ho HP
              simp only [encP, List.getElem?_cons_zero, List.getElem?_cons_succ, Nat.add_zero] at q0 q1
              have HSN := Lib.hid hsn
              clear hsn
              by_cases hij : i = j
              · subst hij
                go_wp2
                go_quiet (fail)
                go_wp2
                go_roundg ((mods n ps).length - (k + 1))
                case measure => have := HK.out; omega
                case rel =>
                  refine ⟨k + 1, by omega, by go_num, below_drewN HX.out.1 _, ?_⟩
                  rw [HSN.out, adj_snoc_eq]
                  exact HX.out.2.frame (fun _ _ => rfl)
              · have hne : (i : Int) ≠ (j : Int) := by omega
                have hnb : ((i : Int) != (j : Int)) = true := by simpa using hne
                go_wp2
                go_quiet (fail)
                go_wp2
                obtain ⟨Wa, hWa⟩ : ∃ W, W = wr.drewN nq := ⟨_, rfl⟩
                rw [← hWa]
                have MA : Hid (Mat Wa w9.heap.size bs n (Gr.ofPairs n ((mods n ps).take k)).adj) := by rw [hWa]; exact HX.out.2.frame (fun _ _ => rfl)
                have BA : Hid (Below w9.heap.size w9 Wa) := by rw [hWa]; exact below_drewN HX.out.1 _
                have p0 : Wa.cell? ⟨b, off + k * 2, none⟩ = some (.int .i64 (i : Int)) := by rw [hWa]; exact q0
                have p1 : Wa.cell? ⟨b, off + k * 2 + 1, none⟩ = some (.int .i64 (j : Int)) := by rw [hWa]; exact q1
                obtain ⟨bi, hbi, r0, e0, f0, l0⟩ := MA.out.row_at hbn hin
                have eij := e0 j hjn
                have fij := f0 j
                have ubi := MA.out.up bi (List.mem_of_getElem? hbi)
                have HBI := Lib.hid hbi
                clear hWa q0 q1 e0 f0 hbi
                refine region_T (by kernel_rfl) (fun w' => w'.cell? ⟨b, off + k * 2, none⟩ = some (.int .i64 (i : Int)) ∧ w'.cell? ⟨b, off + k * 2 + 1, none⟩ = some (.int .i64 (j : Int)) ∧ w'.cell? ⟨w9.heap.size, i, none⟩ = some (.slice (some ⟨bi, 0, none⟩) n n)) 14 ⟨p0, p1, r0⟩ (fun HS => ?_)
                change anyT _ _ _ _ _ _ 15 _ _ _
                refine takeT (i := 0) (v := ?_) rfl rfl (by kernel_rfl) (fun _ _ _ h => h) rfl ?_ HS ?_
                rotate_left
                · intro w' hS'
                  obtain ⟨s0, s1, s2⟩ := hS'
                  go_simp
                  rfl
                rotate_left
                go_frame
                refine takeT (i := 1) (v := ?_) rfl rfl (by kernel_rfl) (fun _ _ _ h => h) rfl ?_ HS ?_
                rotate_left
                · intro w' hS'
                  obtain ⟨s0, s1, s2⟩ := hS'
                  go_simp
                  rfl
                rotate_left
                go_frame
                refine takeT (i := 2) (v := ?_) rfl rfl (by kernel_rfl) (fun _ _ _ h => h) rfl ?_ HS ?_
                rotate_left
                · intro w' hS'
                  obtain ⟨s0, s1, s2⟩ := hS'
                  go_simp
                  rfl
                rotate_left
                go_frame
                refine takeT (i := 3) (v := ?_) rfl rfl (by kernel_rfl) (fun _ _ _ h => h) rfl ?_ HS ?_
                rotate_left
                · intro w' hS'
                  obtain ⟨s0, s1, s2⟩ := hS'
                  go_simp
                  rfl
                rotate_left
                go_frame
                refine takeT (i := 4) (v := ?_) rfl rfl (by kernel_rfl) (fun _ _ _ h => h) rfl ?_ HS ?_
                rotate_left
                · intro w' hS'
                  obtain ⟨s0, s1, s2⟩ := hS'
                  go_simp
                  rfl
                rotate_left
                go_frame
                refine takeT (i := 5) (v := ?_) rfl rfl (by kernel_rfl) (fun _ _ _ h => h) rfl ?_ HS ?_
                rotate_left
                · intro w' hS'
                  obtain ⟨s0, s1, s2⟩ := hS'
                  go_simp
                  rfl
                rotate_left
                go_frame
                refine takeT (i := 6) (v := ?_) rfl rfl (by kernel_rfl) (fun _ _ _ h => h) rfl ?_ HS ?_
                rotate_left
                · intro w' hS'
                  obtain ⟨s0, s1, s2⟩ := hS'
                  go_simp
                  rfl
                rotate_left
                go_frame
                refine takeT (i := 7) (v := ?_) rfl rfl (by kernel_rfl) (fun _ _ _ h => h) rfl ?_ HS ?_
                rotate_left
                · intro w' hS'
                  obtain ⟨s0, s1, s2⟩ := hS'
                  go_simp
                  rfl
                rotate_left
                go_frame
                refine takeT (i := 8) (v := ?_) rfl rfl (by kernel_rfl) (fun _ _ _ h => h) rfl ?_ HS ?_
                rotate_left
                · intro w' hS'
                  obtain ⟨s0, s1, s2⟩ := hS'
                  go_simp
                  rfl
                rotate_left
                go_frame
                refine takeT (i := 9) (v := ?_) rfl rfl (by kernel_rfl) (fun _ _ _ h => h) rfl ?_ HS ?_
                rotate_left
                · intro w' hS'
                  obtain ⟨s0, s1, s2⟩ := hS'
                  go_simp
                  rfl
                rotate_left
                go_frame
                refine takeT (i := 10) (v := ?_) rfl rfl (by kernel_rfl) (fun _ _ _ h => h) rfl ?_ HS ?_
                rotate_left
                · intro w' hS'
                  obtain ⟨s0, s1, s2⟩ := hS'
                  go_simp
                  rfl
                rotate_left
                go_frame
                refine takeT (i := 11) (v := ?_) rfl rfl (by kernel_rfl) (fun _ _ _ h => h) rfl ?_ HS ?_
                rotate_left
                · intro w' hS'
                  obtain ⟨s0, s1, s2⟩ := hS'
                  go_simp
                  rfl
                rotate_left
                go_frame
                refine takeT (i := 12) (v := ?_) rfl rfl (by kernel_rfl) (fun _ _ _ h => h) rfl ?_ HS ?_
                rotate_left
                · intro w' hS'
                  obtain ⟨s0, s1, s2⟩ := hS'
                  go_simp
                  rfl
                rotate_left
                go_frame
                refine takeT (i := 13) (v := ?_) rfl rfl (by kernel_rfl) (fun _ _ _ h => h) rfl ?_ HS ?_
                rotate_left
                · intro w' hS'
                  obtain ⟨s0, s1, s2⟩ := hS'
                  go_simp
                  rfl
                rotate_left
                go_frame
                refine oneT (i := 14) rfl (by kernel_rfl) (fun K hK => ?_)
                go_simp
                refine hK.out _ _ (fun h => absurd rfl h) ?_
                clear hK K HS
                refine doneT (by kernel_rfl) ?_ 0
                obtain ⟨Wb, hWb⟩ : ∃ W, W = (Wa.setCell ⟨bi, j, none⟩ (.bool true)).drew := ⟨_, rfl⟩
                rw [← hWb]
                have MB : Hid (Mat Wb w9.heap.size bs n (fun p q => if p = i ∧ q = j then true else (Gr.ofPairs n ((mods n ps).take k)).adj p q)) := by rw [hWb]; exact (MA.out.set HBI.out hjn).frame (fun _ _ => rfl)
                have BB : Hid (Below w9.heap.size w9 Wb) := by rw [hWb]; exact (BA.out.setCell (Nat.le_of_lt ubi) _).drew
                have nb1 : b ≠ bi := by omega
                have p0b : Wb.cell? ⟨b, off + k * 2, none⟩ = some (.int .i64 (i : Int)) := by rw [hWb]; exact (World.cell?_of_block (w := Wa) (Below.heap_setCell Wa _ _ _ nb1)).trans p0
                have p1b : Wb.cell? ⟨b, off + k * 2 + 1, none⟩ = some (.int .i64 (j : Int)) := by rw [hWb]; exact (World.cell?_of_block (w := Wa) (Below.heap_setCell Wa _ _ _ nb1)).trans p1
                clear hWb p0 p1 r0 l0 eij fij MA BA nb1
                go_wp2
                obtain ⟨bj, hbj, r0, e0, f0, l0⟩ := MB.out.row_at hbn hjn
                have eij := e0 i hin
                have fij := f0 i
                have ubj := MB.out.up bj (List.mem_of_getElem? hbj)
                have HBJ := Lib.hid hbj
                clear e0 f0 hbj
                refine region_T (by kernel_rfl) (fun w' => w'.cell? ⟨b, off + k * 2, none⟩ = some (.int .i64 (i : Int)) ∧ w'.cell? ⟨b, off + k * 2 + 1, none⟩ = some (.int .i64 (j : Int)) ∧ w'.cell? ⟨w9.heap.size, j, none⟩ = some (.slice (some ⟨bj, 0, none⟩) n n)) 14 ⟨p0b, p1b, r0⟩ (fun HS => ?_)
                change anyT _ _ _ _ _ _ 15 _ _ _
                refine takeT (i := 0) (v := ?_) rfl rfl (by kernel_rfl) (fun _ _ _ h => h) rfl ?_ HS ?_
                rotate_left
                · intro w' hS'
                  obtain ⟨s0, s1, s2⟩ := hS'
                  go_simp
                  rfl
                rotate_left
                go_frame
                refine takeT (i := 1) (v := ?_) rfl rfl (by kernel_rfl) (fun _ _ _ h => h) rfl ?_ HS ?_
                rotate_left
                · intro w' hS'
                  obtain ⟨s0, s1, s2⟩ := hS'
                  go_simp
                  rfl
                rotate_left
                go_frame
                refine takeT (i := 2) (v := ?_) rfl rfl (by kernel_rfl) (fun _ _ _ h => h) rfl ?_ HS ?_
                rotate_left
                · intro w' hS'
                  obtain ⟨s0, s1, s2⟩ := hS'
                  go_simp
                  rfl
                rotate_left
                go_frame
                refine takeT (i := 3) (v := ?_) rfl rfl (by kernel_rfl) (fun _ _ _ h => h) rfl ?_ HS ?_
                rotate_left
                · intro w' hS'
                  obtain ⟨s0, s1, s2⟩ := hS'
                  go_simp
                  rfl
                rotate_left
                go_frame
                refine takeT (i := 4) (v := ?_) rfl rfl (by kernel_rfl) (fun _ _ _ h => h) rfl ?_ HS ?_
                rotate_left
                · intro w' hS'
                  obtain ⟨s0, s1, s2⟩ := hS'
                  go_simp
                  rfl
                rotate_left
                go_frame
                refine takeT (i := 5) (v := ?_) rfl rfl (by kernel_rfl) (fun _ _ _ h => h) rfl ?_ HS ?_
                rotate_left
                · intro w' hS'
                  obtain ⟨s0, s1, s2⟩ := hS'
                  go_simp
                  rfl
                rotate_left
                go_frame
                refine takeT (i := 6) (v := ?_) rfl rfl (by kernel_rfl) (fun _ _ _ h => h) rfl ?_ HS ?_
                rotate_left
                · intro w' hS'
                  obtain ⟨s0, s1, s2⟩ := hS'
                  go_simp
                  rfl
                rotate_left
                go_frame
                refine takeT (i := 7) (v := ?_) rfl rfl (by kernel_rfl) (fun _ _ _ h => h) rfl ?_ HS ?_
                rotate_left
                · intro w' hS'
                  obtain ⟨s0, s1, s2⟩ := hS'
                  go_simp
                  rfl
                rotate_left
                go_frame
                refine takeT (i := 8) (v := ?_) rfl rfl (by kernel_rfl) (fun _ _ _ h => h) rfl ?_ HS ?_
                rotate_left
                · intro w' hS'
                  obtain ⟨s0, s1, s2⟩ := hS'
                  go_simp
                  rfl
                rotate_left
                go_frame
                refine takeT (i := 9) (v := ?_) rfl rfl (by kernel_rfl) (fun _ _ _ h => h) rfl ?_ HS ?_
                rotate_left
                · intro w' hS'
                  obtain ⟨s0, s1, s2⟩ := hS'
                  go_simp
                  rfl
                rotate_left
                go_frame
                refine takeT (i := 10) (v := ?_) rfl rfl (by kernel_rfl) (fun _ _ _ h => h) rfl ?_ HS ?_
                rotate_left
                · intro w' hS'
                  obtain ⟨s0, s1, s2⟩ := hS'
                  go_simp
                  rfl
                rotate_left
                go_frame
                refine takeT (i := 11) (v := ?_) rfl rfl (by kernel_rfl) (fun _ _ _ h => h) rfl ?_ HS ?_
                rotate_left
                · intro w' hS'
                  obtain ⟨s0, s1, s2⟩ := hS'
                  go_simp
                  rfl
                rotate_left
                go_frame
                refine takeT (i := 12) (v := ?_) rfl rfl (by kernel_rfl) (fun _ _ _ h => h) rfl ?_ HS ?_
                rotate_left
                · intro w' hS'
                  obtain ⟨s0, s1, s2⟩ := hS'
                  go_simp
                  rfl
                rotate_left
                go_frame
                refine takeT (i := 13) (v := ?_) rfl rfl (by kernel_rfl) (fun _ _ _ h => h) rfl ?_ HS ?_
                rotate_left
                · intro w' hS'
                  obtain ⟨s0, s1, s2⟩ := hS'
                  go_simp
                  rfl
                rotate_left
                go_frame
                refine oneT (i := 14) rfl (by kernel_rfl) (fun K hK => ?_)
                go_simp
                refine hK.out _ _ (fun h => absurd rfl h) ?_
                clear hK K HS
                refine doneT (by kernel_rfl) ?_ 0
                obtain ⟨Wc, hWc⟩ : ∃ W, W = (Wb.setCell ⟨bj, i, none⟩ (.bool true)).drew := ⟨_, rfl⟩
                rw [← hWc]
                have MC : Hid (Mat Wc w9.heap.size bs n (Gr.ofPairs n ((mods n ps).take (k + 1))).adj) := by
                  rw [hWc, HSN.out, adj_snoc hij]
                  exact (MB.out.set HBJ.out hin).frame (fun _ _ => rfl)
                have BC : Hid (Below w9.heap.size w9 Wc) := by rw [hWc]; exact (BB.out.setCell (Nat.le_of_lt ubj) _).drew
                clear hWc p0b p1b r0 l0 eij fij MB BB
                go_wp2
                go_roundg ((mods n ps).length - (k + 1))
                case measure => have := HK.out; omega
                case rel => exact ⟨k + 1, by have := HK.out; omega, by go_num, BC.out, MC.out⟩
            · have hkL : k = (mods n ps).length := by have := HK.out; omega
              subst hkL
              obtain ⟨wd, hwd⟩ : ∃ W, W = wr := ⟨_, rfl⟩
              rw [← hwd] at HX ⊢
              rw [List.take_length] at HX
              have MD : Hid (Mat wd w9.heap.size bs n (Gr.ofPairs n (mods n ps)).adj) := HX.out.2
              have BD : Hid (Below w9.heap.size w9 wd) := HX.out.1
              clear HX hwd HK
              go_wp2_with (at_make; refine mk_full (W := wd) wd.heap.size rfl (.tmp 125) (.tmp 125) 75 25 _ 24 rfl Try.underlying75 infoInts rfl (by decide) _ _ n rfl rfl rfl rfl (by omega) (Nat.le_refl _) ?_; intro w12 hown12 hgr12)
              have RD : Hid (Below wd.heap.size wd w12 ∧ wd.heap.size + 1 ≤ w12.heap.size ∧ OwnRows w12 (wd.heap.size + 1) wd.heap.size n (fun _ => [])) := ⟨(Below.refl _ _).grown hgr12 (Nat.le_refl _) (by simp), (hown12.lt _ rfl).2, rows_start (by omega) hown12⟩
              clear hown12 hgr12
              go_loopg [15] n (fun d s wx => ∃ q : Nat, d + q = n ∧ s = .int .i64 (q : Int) ∧ Hid (Below wd.heap.size wd wx ∧ wd.heap.size + 1 ≤ wx.heap.size ∧ OwnRows wx (wd.heap.size + 1) wd.heap.size n (fun v => if v < q then up ((Gr.ofPairs n (mods n ps)).nb v) else [])))
              case atStart => exact ⟨0, rfl, rfl, RD.out.1, RD.out.2.1, by simpa using RD.out.2.2⟩
              case round =>
                obtain ⟨q, hq, rfl, HX⟩ := hrel
                have HQ := Lib.hid hq
                clear hq
                by_cases hlt : q < n
                · obtain ⟨wo, hwo⟩ : ∃ W, W = wr := ⟨_, rfl⟩
                  have HX1 := HX
                  rw [← hwo] at HX1
                  clear hwo
                  have ML := MD.out.lt
                  have MLT := Lib.hid ML
                  have ml := ML.1
                  clear ML
                  go_wp2
                  go_loopg [16] n (fun d s wx => ∃ u : Nat, d + u = n ∧ s = .int .i64 (u : Int) ∧ Hid (Below wd.heap.size wd wx ∧ wd.heap.size + 1 ≤ wx.heap.size ∧ OwnRows wx (wd.heap.size + 1) wd.heap.size n (fun v => if v < q then up ((Gr.ofPairs n (mods n ps)).nb v) else if v = q then up ((List.range u).filter ((Gr.ofPairs n (mods n ps)).adj q)) else [])))
                  case atStart =>
                    refine ⟨0, rfl, rfl, HX.out.1, HX.out.2.1, ?_⟩
                    have e : (fun v => if v < q then up ((Gr.ofPairs n (mods n ps)).nb v) else if v = q then up ((List.range 0).filter ((Gr.ofPairs n (mods n ps)).adj q)) else []) = (fun v => if v < q then up ((Gr.ofPairs n (mods n ps)).nb v) else []) := by
                      funext v
                      by_cases h1 : v < q
                      · simp [h1]
                      · simp [h1, up]
                    rw [e]
                    exact HX.out.2.2
                  case round =>
                    obtain ⟨u, hu, rfl, HY⟩ := hrel
                    have HU := Lib.hid hu
                    clear hu
                    by_cases hlu : u < n
                    · have MY : Hid (Mat wr w9.heap.size bs n (Gr.ofPairs n (mods n ps)).adj) := MD.out.frame (fun b hb => HY.out.1.block b (by rcases hb with rfl | hb; exact MLT.out.1; exact MLT.out.2 b hb))
                      obtain ⟨bq, hbq, r0, e0, f0, l0⟩ := MY.out.row_at hbn hlt
                      have r1 := e0 u hlu
                      clear e0 f0 hbq
                      cases hadj : (Gr.ofPairs n (mods n ps)).adj q u with
                      | false =>
                        rw [hadj] at r1
                        have HA := Lib.hid hadj
                        clear hadj
                        go_wp2
                        go_roundg (n - (u + 1))
                        case measure => have := HU.out; omega
                        case rel =>
                          refine ⟨u + 1, by omega, by go_num, HY.out.1, HY.out.2.1, ?_⟩
                          rw [filter_snoc, HA.out]
                          simpa using HY.out.2.2
                      | true =>
                        rw [hadj] at r1
                        have HA := Lib.hid hadj
                        clear hadj
                        obtain ⟨hb, hbs, vs, hR⟩ := HY.out
                        obtain ⟨x, hx, hxo⟩ := hR.2.2.1 q hlt
                        have t0 : wr.cell? ⟨wd.heap.size, q, none⟩ = some x := by rw [cell_of hR.2.1 q]; simpa using hx
                        simp only [if_neg (Nat.lt_irrefl q), if_true] at hxo
                        have hlen : (up ((List.range u).filter ((Gr.ofPairs n (mods n ps)).adj q))).length ≤ 400 := by
                          rw [up_length]
                          exact Nat.le_trans (List.length_filter_le _ _) (by simp; omega)
                        have xb := hxo.lt
                        have xne : some wd.heap.size ≠ x.ownBlock := fun e => by have := (xb _ e.symm).1; omega
                        have XN := Lib.hid xne
                        have HO := Lib.hid hxo
                        have HR := Lib.hid hR
                        have HXX := Lib.hid hx
                        have HB := Lib.hid hb
                        have XB := Lib.hid xb
                        clear hxo hR hx hb xb xne
                        go_wp2_with (at_builtin; refine app_one (wd.heap.size + 1) rfl (.tmp 149) (.tmp 151) 25 3 _ 1 8 rfl Try.underlying25 infoInt rfl (by decide) (by decide) _ _ _ #[.int .i64 (u : Int)] rfl rfl rfl (by simp [Value.oneCell']) HO.out hbs (by omega) ?_; intro v1 w1 hown1 hg1 hat1; obtain ⟨A1, c1, e1⟩ := own_slice hown1; subst e1; have tk := (hg1.block _ (by omega) XN.out).trans HR.out.2.1; have q1 : w1.cell? ⟨wd.heap.size, q, none⟩ = some x := (by rw [cell_of tk]; simpa using HXX.out); have f1 := free_of tk q; have HO1 := Lib.hid hown1; have HG1 := Lib.hid hg1; have HA1 := Lib.hid hat1; clear hown1 hg1 hat1 tk)
                        go_roundg (n - (u + 1))
                        case measure => have := HU.out; omega
                        case rel =>
                          refine ⟨u + 1, by omega, by go_num, (HB.out.grown HG1.out HB.out.size (fun c hc => by have := (XB.out c hc).1; omega)).setCell (Nat.le_refl _) _, ?_, ?_⟩
                          · rw [size_setCell]; exact Nat.le_trans hbs HG1.out.size
                          · have h := HR.out.app2 (y := (u : Int)) hlt HXX.out (by omega) hbs HG1.out (by simpa using HO1.out) HA1.out
                            have e : (fun v => if v < q then up ((Gr.ofPairs n (mods n ps)).nb v) else if v = q then up ((List.range (u + 1)).filter ((Gr.ofPairs n (mods n ps)).adj q)) else []) = (fun k => if k = q then (fun v => if v < q then up ((Gr.ofPairs n (mods n ps)).nb v) else if v = q then up ((List.range u).filter ((Gr.ofPairs n (mods n ps)).adj q)) else []) q ++ [(u : Int)] else (fun v => if v < q then up ((Gr.ofPairs n (mods n ps)).nb v) else if v = q then up ((List.range u).filter ((Gr.ofPairs n (mods n ps)).adj q)) else []) k) := by
                              funext k
                              by_cases h1 : k = q
                              · subst h1
                                simp only [if_neg (Nat.lt_irrefl k), if_true]
                                rw [filter_snoc, HA.out]
                                simp [up]
                              · simp [h1]
                            rw [e]
                            exact ⟨_, h⟩
                    · have hun : u = n := by have := HU.out; omega
                      rw [hun] at HY
                      go_wp2
                      go_roundg (n - (q + 1))
                      case measure => have := HQ.out; omega
                      case rel =>
                        refine ⟨q + 1, by have := HQ.out; omega, by go_num, HY.out.1, HY.out.2.1, ?_⟩
                        have e : (fun v => if v < q + 1 then up ((Gr.ofPairs n (mods n ps)).nb v) else []) = (fun v => if v < q then up ((Gr.ofPairs n (mods n ps)).nb v) else if v = q then up ((List.range n).filter ((Gr.ofPairs n (mods n ps)).adj q)) else []) := by
                          funext v
                          by_cases h1 : v < q
                          · simp [h1, show v < q + 1 by omega]
                          · by_cases h2 : v = q
                            · subst h2
                              simp only [if_neg h1, if_true, if_pos (Nat.lt_succ_self v)]
                              rfl
                            · simp [h1, h2, show ¬ v < q + 1 by omega]
                        rw [e]
                        exact HY.out.2.2
                · have hqn : q = n := by have := HQ.out; omega
                  rw [hqn] at HX
                  go_wp2
                  go_ret2
                  obtain ⟨hb, hbs, vs, hR⟩ := HX.out
                  have z1 := BD.out.size
                  refine ⟨below_then' (below_then' B9.out BD.out) hb, g, _, _, wd.heap.size, wd.heap.size + 1, vs, rfl, s0, (G9.out.at_ BD.out).at_ hb, by omega, by omega, ?_⟩
                  refine ⟨hR.1, hR.2.1, fun i hi => ?_, hR.2.2.2⟩
                  have h := hR.2.2.1 i hi
                  simp only [if_pos hi] at h
                  exact h
set_option maxRecDepth 100000 in
set_option maxHeartbeats 8000000 in
theorem made_zero (w : World) {lo hi : Nat} {v : Value} {ps : List (Int × Int)} (h : Prs w lo hi v ps) (hl : ps.length ≤ 4000) :
    Calls Try.prog 70 #[.int .i64 0, v] w fun e w' => Below w.heap.size w w' ∧ ∃ g lo1 hi1 tb, e = .returned (.tuple #[g, .slice (some ⟨tb, 0, none⟩) 0 0]) ∧ w.heap.size ≤ lo1 ∧ PG w' lo1 hi1 g (Gr.ofPairs 0 []) ∧ w.heap.size ≤ tb ∧
      w'.ownsRow w.heap.size 25 1 (.slice (some ⟨tb, 0, none⟩) 0 0) 0 [] := by
  obtain ⟨_, A, c, rfl⟩ := h.form
  clear h
  go_enter Try.func70, Try.ntmps70
  go_wp2
  go_loopg [6, 7] 0 (fun d v s wr => v = .slice none 0 0 ∧ s = .int .i64 0 ∧ Hid (Below w.heap.size w wr))
  case atStart => exact ⟨rfl, rfl, Below.refl _ _⟩
  case round =>
    obtain ⟨rfl, rfl, HB⟩ := hrel
    have s0 := HB.out.size
    rcases Nat.eq_zero_or_pos ps.length with h0 | h0
    all_goals
      go_wp2_with (first
        | (go_at_call 105; refine (Make_in _ 0 (by omega) (show Prs wr wr.heap.size wr.heap.size (.slice none 0 0) [] from Sl.empty _ _ _ 2 none 0 (Nat.le_refl _))).mono ?_; rintro e w9 ⟨hb9, hx9, -⟩; obtain ⟨g, rfl, hg9⟩ := hx9 (by simp); have B9 := Lib.hid (below_then' HB.out hb9); have G9 := Lib.hid hg9; have s9 := hb9.size; clear hb9 hx9 hg9)
        | (at_make; refine mk_full (W := w9) w9.heap.size rfl (.tmp 68) (.tmp 68) 136 24 _ 24 rfl Try.underlying136 infoBools rfl (by decide) _ _ 0 rfl rfl rfl rfl (by omega) (Nat.le_refl _) ?_; intro w10 hown10 hgr10))
      have B10 : Hid (Below w9.heap.size w9 w10) := (Below.refl _ _).grown hgr10 (Nat.le_refl _) (by simp)
      clear hown10 hgr10
      go_loopg [12] 0 (fun d s wx => s = .int .i64 0 ∧ Hid (Below w9.heap.size w9 wx))
      case atStart => exact ⟨rfl, B10.out⟩
      case round =>
        obtain ⟨rfl, HC⟩ := hrel
        go_wp2
        go_loopg [13] 0 (fun d s wx => s = .int .i64 0 ∧ Hid (Below w9.heap.size w9 wx))
        case atStart => exact ⟨rfl, HC.out⟩
        case round =>
          obtain ⟨rfl, HD⟩ := hrel
          obtain ⟨wd, hwd⟩ : ∃ W, W = wr := ⟨_, rfl⟩
          rw [← hwd] at HD ⊢
          clear hwd
          have s1 := HD.out.size
          go_wp2_with (at_make; refine mk_full (W := wd) wd.heap.size rfl (.tmp 125) (.tmp 125) 75 25 _ 24 rfl Try.underlying75 infoInts rfl (by decide) _ _ 0 rfl rfl rfl rfl (by omega) (Nat.le_refl _) ?_; intro w12 hown12 hgr12)
          have B12 : Hid (Below wd.heap.size wd w12 ∧ w12.ownsRow wd.heap.size 25 1 (.slice (some ⟨wd.heap.size, 0, none⟩) 0 0) 0 []) := ⟨(Below.refl _ _).grown hgr12 (Nat.le_refl _) (by simp), hown12⟩
          clear hown12 hgr12
          go_loopg [15] 0 (fun d s wx => s = .int .i64 0 ∧ Hid (Below wd.heap.size wd wx ∧ wx.ownsRow wd.heap.size 25 1 (.slice (some ⟨wd.heap.size, 0, none⟩) 0 0) 0 []))
          case atStart => exact ⟨rfl, B12.out⟩
          case round =>
            obtain ⟨rfl, HF⟩ := hrel
            go_wp2
            go_ret2
            obtain ⟨hb, ho⟩ := HF.out
            exact ⟨below_then' (below_then' B9.out HD.out) hb, g, _, _, wd.heap.size, rfl, s0, (G9.out.at_ HD.out).at_ hb, by omega, own_mono ho (by omega)⟩
end Go.Proofs.Ythbojpaghbbnnaa
