/- graph.of, walked. -/
import Derived.Test.YthbojpaghbbnnaaO
namespace Go.Proofs.Ythbojpaghbbnnaa
open Go.RowKit Go.WideMaps Go.Maps
set_option linter.unusedVariables false
set_option linter.unusedSimpArgs false
set_option maxRecDepth 100000 in
set_option maxHeartbeats 4000000 in
theorem of_any (w : World) (n : Nat) (hn : n ≤ 16777216) (m lo : Nat) (E : List (Int × Int)) (hE : EMap w m E) (hr : Edgy n E) (hlo : lo ≤ m) :
    Calls Try.prog 109 #[.int .i64 (n : Int), .map (some m)] w fun e w' => Below w.heap.size w w' ∧ ∃ v, e = .returned v ∧ PG w' lo w'.heap.size v (Gr.ofE n E) := by
  have HE := Lib.hid hE
  have HR := Lib.hid hr
  clear hE hr
  have hm := HE.out.lt
  obtain ⟨i0, hi, hz0, hz1, hz2⟩ := info_parts infoInt
  have HI : Hid (Try.prog.info? 3 = some i0 ∧ i0.zero = some (.int .i64 0) ∧ i0.size = 1 ∧ i0.bytes = 8) := ⟨hi, hz0, hz1, hz2⟩
  clear hi hz0 hz1 hz2
  go_enter Try.func109, Try.ntmps109
  go_wp2_with (first
    | (at_make; refine mk_full (W := w) w.heap.size rfl (.tmp 11) (.tmp 11) 75 25 _ 24 rfl Try.underlying75 infoInts rfl (by decide) _ _ n rfl rfl rfl rfl (by omega) (Nat.le_refl _) ?_; intro w1 hown hgr)
    | (at_range; refine wpl_range rfl (.tmp 15) rfl m (w1.heap.size + 1) (by simp) rfl (HE.out.frame ((Below.heap_alloc _ _ _ (Nat.lt_of_lt_of_le hm hgr.size)).trans (hgr.block m hm (by simp)))) ?_; intro w2 hrg hg2 hs2))
  go_frame
  have hlt1 : w.heap.size < w1.heap.size := (hown.lt _ rfl).2
  go_loopg [6] E.length (fun k s wr => ∃ L T, Hid (L.length = k) ∧ OfInv w n m w1.heap.size w.heap.size (w1.heap.size + 1) (w1.heap.size + 2) E wr L T)
  case atStart =>
    refine ⟨E, fun _ => [], rfl, ?_, hrg, ?_, fun p hp => hp, by omega, ?_, filled_start E n⟩
    · exact (((Below.refl _ _).grown hgr (Nat.le_refl _) (by simp)).alloc hgr.size _).grown hg2 (by simp; omega) (by simp)
    · exact (hg2.block w1.heap.size (by simp) (by simp)).trans (heap_alloc_new _ _)
    · exact ((rows_start (base := w1.heap.size + 2) (by omega) hown).kept (World.grownBy_alloc _ _ none) (by simp) (by simp)).kept hg2 (by simp) (by simp)
  case round =>
    obtain ⟨L, T, HL, HV⟩ := hrel
    have hrg1 := HV.rng
    have hbs := HV.le
    have hbel := HV.bel
    have HV' := Lib.hid HV
    clear HV hrg hs2 hown
    go_wp2_with (at_next; refine wpl_next rfl (.tmp 16) rfl m (w1.heap.size + 1) rfl hrg1 ?_ ?_)
    · intro hL
      subst hL
      obtain ⟨wo, rfl⟩ : ∃ wo : World, wo = wr := ⟨_, rfl⟩
      have k2 := cell_of HV'.out.gbk 2
      have HF : Hid (Filled E [] n T) := HV'.out.fill
      have hbase := HV'.out.le
      go_wp2
      go_loopg [64] n (fun k s wx => ∃ q : Nat, k + q = n ∧ s = .int .i64 q ∧ Hid (Below w.heap.size w wx ∧ OwnRows wx (w1.heap.size + 2) w.heap.size n (fun j => if j < q then srt (T j) else T j) ∧ wx.heap[w1.heap.size]? = some (.cells #[.int .i64 (n : Int), .map (some m), .slice (some ⟨w.heap.size, 0, none⟩) n n] 119 (0, 0)) ∧ w1.heap.size + 2 ≤ wx.heap.size))
      case atStart =>
        refine ⟨0, rfl, rfl, HV'.out.bel, ?_, HV'.out.gbk, HV'.out.le⟩
        simpa using HV'.out.rows
      case round =>
        obtain ⟨q, hq, rfl, HX⟩ := hrel
        have HQ := Lib.hid hq
        clear hq k2
        by_cases hlt : q < n
        · obtain ⟨hb, ⟨vs, hR⟩, hg1, hle⟩ := HX.out
          obtain ⟨x, hx, hxo⟩ := hR.2.2.1 q hlt
          have t0 : wr.cell? ⟨w.heap.size, q, none⟩ = some x := by rw [cell_of hR.2.1 q]; simpa using hx
          have hlen : (T q).length < 4611686018427387904 := by have := HF.out.bound HR.out hlt; omega
          have hxo' : wr.ownsRow (w1.heap.size + 2) 3 1 x (T q).length ((T q).map (Value.int .i64)) := by simpa using hxo
          have HO := Lib.hid hxo'
          have HR' := Lib.hid hR
          have HX' := Lib.hid hx
          have HG := Lib.hid hg1
          have HB := Lib.hid hb
          clear hxo hxo' hR hx hg1 hb HX
          go_wp2_with (go_at_call 144; refine (Sort_own _ HO.out hlen).mono ?_; rintro e w' ⟨rfl, ho, hg⟩; have HO1 := Lib.hid ho; have HG1 := Lib.hid hg; clear ho hg)
          go_roundg (n - (q + 1))
          case measure => have := HQ.out; omega
          case rel =>
            have xb := HO.out.lt
            refine ⟨q + 1, by omega, by go_num, HB.out.grown HG1.out HB.out.size (fun c hc => by have := (xb c hc).1; omega), ?_, (HG1.out.block _ (by omega) (fun e => by have := (xb _ e.symm).1; omega)).trans HG.out, Nat.le_trans hle HG1.out.size⟩
            have h := HR'.out.sorted (i := q) (w' := w') HX'.out (by omega) HG1.out (by simpa using HO1.out) hlt
            refine ⟨vs, ?_⟩
            have e : (fun j => if j < q + 1 then srt (T j) else T j) = (fun k => if k = q then srt ((fun j => if j < q then srt (T j) else T j) q) else (fun j => if j < q then srt (T j) else T j) k) := by
              funext k
              by_cases h1 : k = q
              · subst h1; simp
              · by_cases h2 : k < q
                · simp [h1, h2, show k < q + 1 from by omega]
                · simp [h1, h2, show ¬ k < q + 1 from by omega]
            rw [e]
            exact h
        · have hqn : q = n := by have := HQ.out; omega
          obtain ⟨hb, ⟨vs, hR⟩, hg1, hle⟩ := HX.out
          have HR' := Lib.hid hR
          have HG := Lib.hid hg1
          have HB := Lib.hid hb
          clear hR hg1 hb HX
          go_wp2
          go_ret
          refine ⟨HB.out, _, rfl, ofE_ok HR.out hn, Nat.le_refl _, w1.heap.size, m, some ⟨w.heap.size, 0, none⟩, n, E, rfl, by omega, by omega, HG.out, hlo, by have := HB.out.size; omega, HE.out.frame (HB.out.block m hm), ofE_tells HR.out HE.out.nodup, ?_⟩
          have h := HR'.out.rows2 (lo := lo) (by omega) (by omega) hn
          obtain ⟨us, h1, h2⟩ := h
          refine ⟨us, h1, fun k hk => ?_⟩
          obtain ⟨x, hx, hxi⟩ := h2 k hk
          refine ⟨x, hx, ?_⟩
          have hk' : k < n := hk
          have e : (fun j => if j < q then srt (T j) else T j) k = up ((Gr.ofE n E).nb k) := by
            simp only [if_pos (show k < q from by omega)]
            exact filled_nb HR.out hn HF.out hk'
          rw [e] at hxi
          exact hxi
    · intro a b w3 hp hrg3 hg3 hs3 hen
      obtain ⟨hp0, hp1, hp2⟩ := HR.out (a, b) (HV'.out.sub _ hp)
      simp only at hp0 hp1 hp2
      obtain ⟨i, rfl⟩ := Int.eq_ofNat_of_zero_le hp0
      obtain ⟨j, rfl⟩ := Int.eq_ofNat_of_zero_le (Int.le_trans hp0 (Int.le_of_lt hp1))
      have hij : i < j := by omega
      have hjn : j < n := by omega
      have hin : i < n := by omega
      clear hp0 hp1 hp2
      obtain ⟨vs, R3'⟩ := HV'.out.rows.kept hg3 (by intro e; injection e; omega) (fun k e => by injection e; omega)
      have R3 := Lib.hid R3'
      clear R3'
      have G3 : Hid (w3.heap[w1.heap.size]? = some (.cells #[.int .i64 (n : Int), .map (some m), .slice (some ⟨w.heap.size, 0, none⟩) n n] 119 (0, 0))) := (hg3.block w1.heap.size (by omega) (by intro e; injection e; omega)).trans HV'.out.gbk
      have B3 : Hid (Below w.heap.size w w3) := hbel.grown hg3 hbel.size (fun k e => by injection e; omega)
      have HP := Lib.hid hp
      have H3 := Lib.hid hg3
      have HR3 := Lib.hid hrg3
      have b5 : w.heap.size < w3.heap.size := by omega
      have b6 : w1.heap.size < w3.heap.size := by omega
      have b7 : w1.heap.size + 2 ≤ w3.heap.size := by omega
      clear hp hg3 hs3 hrg3 hgr hg2 hrg1 hbs hbel
      unfold kv at hen ⊢
      go_wp2
      obtain ⟨W5, hW5⟩ : ∃ W, W = w3.alloc (.cells #[.int .i64 (i : Int), .int .i64 (j : Int)] 121) := ⟨_, rfl⟩
      rw [← hW5]
      have R5 : Hid (RowsAt W5 (w1.heap.size + 2) w.heap.size n T vs) := by rw [hW5]; exact R3.out.kept (World.grownBy_alloc _ _ none) (by simp) (by simp)
      have G5 : Hid (W5.heap[w1.heap.size]? = some (.cells #[.int .i64 (n : Int), .map (some m), .slice (some ⟨w.heap.size, 0, none⟩) n n] 119 (0, 0))) := by rw [hW5]; exact (Below.heap_alloc _ _ _ b6).trans G3.out
      have E5 : Hid (W5.heap[w3.heap.size]? = some (.cells #[.int .i64 (i : Int), .int .i64 (j : Int)] 121 (0, 0))) := by rw [hW5]; exact heap_alloc_new _ _
      have B5 : Hid (Below w.heap.size w W5) := by rw [hW5]; exact B3.out.alloc B3.out.size _
      have S5 : Hid (Rng W5 m (w1.heap.size + 1) (less L ((i : Int), (j : Int)))) := by
        have h := HR3.out
        rw [hW5]
        exact h.frame (Below.heap_alloc _ _ _ h.lt.1) (Below.heap_alloc _ _ _ h.lt.2)
      have b8 : W5.heap.size = w3.heap.size + 1 := by rw [hW5]; simp
      have H8 := Lib.hid b8
      have b9 : w3.heap.size < W5.heap.size := by omega
      clear hW5 b8
      -- row i gets j
      obtain ⟨x0, x0x, x0o⟩ := R5.out.2.2.1 i (by omega)
      have x0b := x0o.lt
      have x0l : ∀ c, x0.ownBlock = some c → c < w3.heap.size := by
        obtain ⟨y, hy, hyo⟩ := R3.out.2.2.1 i (by omega)
        have : some y = some x0 := by rw [← hy, ← x0x]
        cases this
        exact fun c hc => (hyo.lt c hc).2
      have q0g : some w1.heap.size ≠ x0.ownBlock := fun e => by have := x0b _ e.symm; omega
      have q0t : some w.heap.size ≠ x0.ownBlock := fun e => by have := x0b _ e.symm; omega
      have q0e : some w3.heap.size ≠ x0.ownBlock := fun e => by have := x0l _ e.symm; omega
      have k0 := cell_of G5.out 2
      have e0 := cell_of E5.out 0
      have e1 := cell_of E5.out 1
      have t0 : W5.cell? ⟨w.heap.size, i, none⟩ = some x0 := by rw [cell_of R5.out.2.1 i]; simpa using x0x
      have f0 := free_of R5.out.2.1 i
      have wl : w.heap.size < W5.heap.size := by omega
      have wl1 : w1.heap.size < W5.heap.size := by omega
      have hln : (T i).length ≤ 16777216 := (by have := HV'.out.fill.bound HR.out hin; omega)
      have XO0 := Lib.hid x0o
      have XX0 := Lib.hid x0x
      have QG0 := Lib.hid q0g
      have QT0 := Lib.hid q0t
      have QE0 := Lib.hid q0e
      clear x0o x0x x0b x0l q0g q0t q0e
      refine region_T (by kernel_rfl) (fun w' => w'.cell? ⟨w1.heap.size, 2, none⟩ = some (.slice (some ⟨w.heap.size, 0, none⟩) n n) ∧ w'.cell? ⟨w3.heap.size, 0, none⟩ = some (.int .i64 (i : Int)) ∧ w'.cell? ⟨w3.heap.size, 1, none⟩ = some (.int .i64 (j : Int)) ∧ w'.cell? ⟨w.heap.size, i, none⟩ = some x0) 19 ⟨k0, e0, e1, t0⟩ (fun HS => ?_)
      change anyT _ _ _ _ _ _ 20 _ _ _
      refine takeT (i := 0) (v := ?_) rfl rfl (by kernel_rfl) (fun _ _ _ h => h) rfl ?_ HS ?_
      rotate_left
      · intro w' hS'
        obtain ⟨s0, s1, s2, s3⟩ := hS'
        go_simp
        rfl
      rotate_left
      go_frame
      refine takeT (i := 1) (v := ?_) rfl rfl (by kernel_rfl) (fun _ _ _ h => h) rfl ?_ HS ?_
      rotate_left
      · intro w' hS'
        obtain ⟨s0, s1, s2, s3⟩ := hS'
        go_simp
        rfl
      rotate_left
      go_frame
      refine takeT (i := 2) (v := ?_) rfl rfl (by kernel_rfl) (fun _ _ _ h => h) rfl ?_ HS ?_
      rotate_left
      · intro w' hS'
        obtain ⟨s0, s1, s2, s3⟩ := hS'
        go_simp
        rfl
      rotate_left
      go_frame
      refine takeT (i := 3) (v := ?_) rfl rfl (by kernel_rfl) (fun _ _ _ h => h) rfl ?_ HS ?_
      rotate_left
      · intro w' hS'
        obtain ⟨s0, s1, s2, s3⟩ := hS'
        go_simp
        rfl
      rotate_left
      go_frame
      refine takeT (i := 4) (v := ?_) rfl rfl (by kernel_rfl) (fun _ _ _ h => h) rfl ?_ HS ?_
      rotate_left
      · intro w' hS'
        obtain ⟨s0, s1, s2, s3⟩ := hS'
        go_simp
        rfl
      rotate_left
      go_frame
      refine takeT (i := 5) (v := ?_) rfl rfl (by kernel_rfl) (fun _ _ _ h => h) rfl ?_ HS ?_
      rotate_left
      · intro w' hS'
        obtain ⟨s0, s1, s2, s3⟩ := hS'
        go_simp
        rfl
      rotate_left
      go_frame
      refine takeT (i := 6) (v := ?_) rfl rfl (by kernel_rfl) (fun _ _ _ h => h) rfl ?_ HS ?_
      rotate_left
      · intro w' hS'
        obtain ⟨s0, s1, s2, s3⟩ := hS'
        go_simp
        rfl
      rotate_left
      go_frame
      refine takeT (i := 7) (v := ?_) rfl rfl (by kernel_rfl) (fun _ _ _ h => h) rfl ?_ HS ?_
      rotate_left
      · intro w' hS'
        obtain ⟨s0, s1, s2, s3⟩ := hS'
        go_simp
        rfl
      rotate_left
      go_frame
      refine takeT (i := 8) (v := ?_) rfl rfl (by kernel_rfl) (fun _ _ _ h => h) rfl ?_ HS ?_
      rotate_left
      · intro w' hS'
        obtain ⟨s0, s1, s2, s3⟩ := hS'
        go_simp
        rfl
      rotate_left
      go_frame
      refine takeT (i := 9) (v := ?_) rfl rfl (by kernel_rfl) (fun _ _ _ h => h) rfl ?_ HS ?_
      rotate_left
      · intro w' hS'
        obtain ⟨s0, s1, s2, s3⟩ := hS'
        go_simp
        rfl
      rotate_left
      go_frame
      refine takeT (i := 10) (v := ?_) rfl rfl (by kernel_rfl) (fun _ _ _ h => h) rfl ?_ HS ?_
      rotate_left
      · intro w' hS'
        obtain ⟨s0, s1, s2, s3⟩ := hS'
        go_simp
        rfl
      rotate_left
      go_frame
      refine takeT (i := 11) (v := ?_) rfl rfl (by kernel_rfl) (fun _ _ _ h => h) rfl ?_ HS ?_
      rotate_left
      · intro w' hS'
        obtain ⟨s0, s1, s2, s3⟩ := hS'
        go_simp
        rfl
      rotate_left
      go_frame
      refine takeT (i := 12) (v := ?_) rfl rfl (by kernel_rfl) (fun _ _ _ h => h) rfl ?_ HS ?_
      rotate_left
      · intro w' hS'
        obtain ⟨s0, s1, s2, s3⟩ := hS'
        go_simp
        rfl
      rotate_left
      go_frame
      refine takeT (i := 13) (v := ?_) rfl rfl (by kernel_rfl) (fun _ _ _ h => h) rfl ?_ HS ?_
      rotate_left
      · intro w' hS'
        obtain ⟨s0, s1, s2, s3⟩ := hS'
        go_simp
        rfl
      rotate_left
      go_frame
      refine takeT (i := 14) (v := ?_) rfl rfl (by kernel_rfl) (fun _ _ _ h => h) rfl ?_ HS ?_
      rotate_left
      · intro w' hS'
        obtain ⟨s0, s1, s2, s3⟩ := hS'
        go_simp
        rfl
      rotate_left
      go_frame
      refine takeT (i := 15) (v := ?_) rfl rfl (by kernel_rfl) (fun _ _ _ h => h) rfl ?_ HS ?_
      rotate_left
      · intro w' hS'
        obtain ⟨s0, s1, s2, s3⟩ := hS'
        go_simp
        rfl
      rotate_left
      go_frame
      refine oneT (i := 16) rfl (by kernel_rfl) (fun K hK => ?_)
      go_simp
      refine hK.out _ _ (fun _ => ?_) ?_
      · exact ⟨(World.cell?_of_block (w := W5) (Below.heap_alloc W5 _ _ wl1)).trans k0, (World.cell?_of_block (w := W5) (Below.heap_alloc W5 _ _ b9)).trans e0, (World.cell?_of_block (w := W5) (Below.heap_alloc W5 _ _ b9)).trans e1, (World.cell?_of_block (w := W5) (Below.heap_alloc W5 _ _ wl)).trans t0⟩
      clear hK K
      refine oneT (i := 17) rfl (by kernel_rfl) (fun K hK => ?_)
      refine step_append_lies _ (by rfl) (.tmp 34) (.tmp 37) 25 (by rfl) (w1.heap.size + 2) 3 i0 (.int .i64 0) 1 8 Try.underlying25 HI.out.1 HI.out.2.1 HI.out.2.2.1 HI.out.2.2.2 rfl (by decide) x0 _ _ (by rfl) (XO0.out.alloc _).drew ⟨W5.heap.size, 0, none⟩ 1 1 [.int .i64 (j : Int)] (by rfl) rfl (World.news_of_block (cs := #[.int .i64 (j : Int)]) (t := 3) (fr := (0, 0)) (heap_alloc_new W5 _)) (by simp [Value.oneCell']) (by decide) (by unfold maxLen; omega) (by omega) (by simp; omega) (W5.heap.size + 1) (by simp) ?_
      intro g0 cap0 V0 hown0 hg0 hat0 hlt0
      have k0' := far_cell hg0 k0 QG0.out
      have e0' := far_cell hg0 e0 QE0.out
      have e1' := far_cell hg0 e1 QE0.out
      have t0' := far_cell hg0 t0 QT0.out
      have f0' := (far_frozen hg0 (a := ⟨w.heap.size, i, none⟩) wl QT0.out).trans f0
      refine hK.out _ _ (fun _ => ⟨k0', e0', e1', t0'⟩) ?_
      clear hK K
      have HS0 : (fun w' : World => w'.cell? ⟨w1.heap.size, 2, none⟩ = some (.slice (some ⟨w.heap.size, 0, none⟩) n n) ∧ w'.cell? ⟨w3.heap.size, 0, none⟩ = some (.int .i64 (i : Int)) ∧ w'.cell? ⟨w3.heap.size, 1, none⟩ = some (.int .i64 (j : Int)) ∧ w'.cell? ⟨w.heap.size, i, none⟩ = some x0) V0 := ⟨k0', e0', e1', t0'⟩
      go_frame
      refine takeT (i := 18) (v := ?_) rfl rfl (by kernel_rfl) (fun _ _ _ h => h) rfl ?_ HS0 ?_
      rotate_left
      · intro w' hS'
        obtain ⟨s0, s1, s2, s3⟩ := hS'
        go_simp
        rfl
      rotate_left
      go_frame
      refine oneT (i := 19) rfl (by kernel_rfl) (fun K hK => ?_)
      go_simp
      refine hK.out _ _ (fun h => absurd rfl h) ?_
      clear hK K
      refine doneT (by kernel_rfl) ?_ 0
      obtain ⟨W7, hW7⟩ : ∃ W, W = V0.setCell ⟨w.heap.size, i, none⟩ (.slice (some ⟨g0, 0, none⟩) ((T i).length + 1) cap0) := ⟨_, rfl⟩
      rw [← hW7]
      have R7 := Lib.hid (R5.out.app (y := (j : Int)) (by omega) XX0.out (by omega) (by omega) hg0 hown0 hat0)
      rw [← hW7] at R7
      have fb : ∀ c, c < W5.heap.size → some c ≠ x0.ownBlock → c ≠ w.heap.size → W7.heap[c]? = W5.heap[c]? := fun c h1 h2 h3 => by rw [hW7]; exact (Below.heap_setCell _ _ _ _ h3).trans (far_block hg0 h1 h2)
      have G7 : Hid (W7.heap[w1.heap.size]? = some (.cells #[.int .i64 (n : Int), .map (some m), .slice (some ⟨w.heap.size, 0, none⟩) n n] 119 (0, 0))) := (fb _ wl1 QG0.out (by omega)).trans G5.out
      have E7 : Hid (W7.heap[w3.heap.size]? = some (.cells #[.int .i64 (i : Int), .int .i64 (j : Int)] 121 (0, 0))) := (fb _ b9 QE0.out (by omega)).trans E5.out
      have hvs : W5.heap.size ≤ V0.heap.size := by have := hg0.size; simp at this; omega
      have B7 : Hid (Below w.heap.size w W7) := by
        rw [hW7]
        exact ((((B5.out.alloc B5.out.size _).drew).grown hg0 (by simp; omega) (fun c hc => by have := (XO0.out.lt c hc).1; omega))).setCell (by simp) _
      have S7 : Hid (Rng W7 m (w1.heap.size + 1) (less L ((i : Int), (j : Int)))) := by
        have h := S5.out
        exact h.frame (fb _ h.lt.1 (fun e => by have := (XO0.out.lt _ e.symm).1; omega) (by omega)) (fb _ h.lt.2 (fun e => by have := (XO0.out.lt _ e.symm).1; omega) (by omega))
      have hsz7 : W5.heap.size ≤ W7.heap.size := by rw [hW7, size_setCell]; exact hvs
      have b9 : w3.heap.size < W7.heap.size := by omega
      clear hW7 fb k0 e0 e1 t0 f0 k0' e0' e1' t0' f0' wl wl1 hvs hg0 hown0 hat0 hlt0 HS HS0 hln
      obtain ⟨T7, hT7⟩ : ∃ T7 : Nat → List Int, T7 = fun k => if k = i then T i ++ [(j : Int)] else T k := ⟨_, rfl⟩
      rw [← hT7] at R7
      have HT7 := Lib.hid hT7
      clear hT7
      go_wp2
      -- row j gets i
      obtain ⟨x1, x1x, x1o⟩ := R7.out.2.2.1 j (by omega)
      have x1b := x1o.lt
      have x1l : ∀ c, x1.ownBlock = some c → c < w3.heap.size := by
        obtain ⟨y, hy, hyo⟩ := R3.out.2.2.1 j (by omega)
        have : some y = some x1 := by rw [← hy, ← x1x, List.getElem?_set_ne (by omega)]
        cases this
        exact fun c hc => (hyo.lt c hc).2
      have q1g : some w1.heap.size ≠ x1.ownBlock := fun e => by have := x1b _ e.symm; omega
      have q1t : some w.heap.size ≠ x1.ownBlock := fun e => by have := x1b _ e.symm; omega
      have q1e : some w3.heap.size ≠ x1.ownBlock := fun e => by have := x1l _ e.symm; omega
      have k0 := cell_of G7.out 2
      have e0 := cell_of E7.out 0
      have e1 := cell_of E7.out 1
      have t0 : W7.cell? ⟨w.heap.size, j, none⟩ = some x1 := by rw [cell_of R7.out.2.1 j]; simpa using x1x
      have f0 := free_of R7.out.2.1 j
      have wl : w.heap.size < W7.heap.size := by omega
      have wl1 : w1.heap.size < W7.heap.size := by omega
      have hln : (T7 j).length ≤ 16777216 := (by have := HV'.out.fill.bound HR.out hjn; rw [HT7.out]; simp only [if_neg (show ¬ j = i from by omega)]; omega)
      have XO1 := Lib.hid x1o
      have XX1 := Lib.hid x1x
      have QG1 := Lib.hid q1g
      have QT1 := Lib.hid q1t
      have QE1 := Lib.hid q1e
      clear x1o x1x x1b x1l q1g q1t q1e
      refine region_T (by kernel_rfl) (fun w' => w'.cell? ⟨w1.heap.size, 2, none⟩ = some (.slice (some ⟨w.heap.size, 0, none⟩) n n) ∧ w'.cell? ⟨w3.heap.size, 0, none⟩ = some (.int .i64 (i : Int)) ∧ w'.cell? ⟨w3.heap.size, 1, none⟩ = some (.int .i64 (j : Int)) ∧ w'.cell? ⟨w.heap.size, j, none⟩ = some x1) 19 ⟨k0, e0, e1, t0⟩ (fun HS => ?_)
      change anyT _ _ _ _ _ _ 20 _ _ _
      refine takeT (i := 0) (v := ?_) rfl rfl (by kernel_rfl) (fun _ _ _ h => h) rfl ?_ HS ?_
      rotate_left
      · intro w' hS'
        obtain ⟨s0, s1, s2, s3⟩ := hS'
        go_simp
        rfl
      rotate_left
      go_frame
      refine takeT (i := 1) (v := ?_) rfl rfl (by kernel_rfl) (fun _ _ _ h => h) rfl ?_ HS ?_
      rotate_left
      · intro w' hS'
        obtain ⟨s0, s1, s2, s3⟩ := hS'
        go_simp
        rfl
      rotate_left
      go_frame
      refine takeT (i := 2) (v := ?_) rfl rfl (by kernel_rfl) (fun _ _ _ h => h) rfl ?_ HS ?_
      rotate_left
      · intro w' hS'
        obtain ⟨s0, s1, s2, s3⟩ := hS'
        go_simp
        rfl
      rotate_left
      go_frame
      refine takeT (i := 3) (v := ?_) rfl rfl (by kernel_rfl) (fun _ _ _ h => h) rfl ?_ HS ?_
      rotate_left
      · intro w' hS'
        obtain ⟨s0, s1, s2, s3⟩ := hS'
        go_simp
        rfl
      rotate_left
      go_frame
      refine takeT (i := 4) (v := ?_) rfl rfl (by kernel_rfl) (fun _ _ _ h => h) rfl ?_ HS ?_
      rotate_left
      · intro w' hS'
        obtain ⟨s0, s1, s2, s3⟩ := hS'
        go_simp
        rfl
      rotate_left
      go_frame
      refine takeT (i := 5) (v := ?_) rfl rfl (by kernel_rfl) (fun _ _ _ h => h) rfl ?_ HS ?_
      rotate_left
      · intro w' hS'
        obtain ⟨s0, s1, s2, s3⟩ := hS'
        go_simp
        rfl
      rotate_left
      go_frame
      refine takeT (i := 6) (v := ?_) rfl rfl (by kernel_rfl) (fun _ _ _ h => h) rfl ?_ HS ?_
      rotate_left
      · intro w' hS'
        obtain ⟨s0, s1, s2, s3⟩ := hS'
        go_simp
        rfl
      rotate_left
      go_frame
      refine takeT (i := 7) (v := ?_) rfl rfl (by kernel_rfl) (fun _ _ _ h => h) rfl ?_ HS ?_
      rotate_left
      · intro w' hS'
        obtain ⟨s0, s1, s2, s3⟩ := hS'
        go_simp
        rfl
      rotate_left
      go_frame
      refine takeT (i := 8) (v := ?_) rfl rfl (by kernel_rfl) (fun _ _ _ h => h) rfl ?_ HS ?_
      rotate_left
      · intro w' hS'
        obtain ⟨s0, s1, s2, s3⟩ := hS'
        go_simp
        rfl
      rotate_left
      go_frame
      refine takeT (i := 9) (v := ?_) rfl rfl (by kernel_rfl) (fun _ _ _ h => h) rfl ?_ HS ?_
      rotate_left
      · intro w' hS'
        obtain ⟨s0, s1, s2, s3⟩ := hS'
        go_simp
        rfl
      rotate_left
      go_frame
      refine takeT (i := 10) (v := ?_) rfl rfl (by kernel_rfl) (fun _ _ _ h => h) rfl ?_ HS ?_
      rotate_left
      · intro w' hS'
        obtain ⟨s0, s1, s2, s3⟩ := hS'
        go_simp
        rfl
      rotate_left
      go_frame
      refine takeT (i := 11) (v := ?_) rfl rfl (by kernel_rfl) (fun _ _ _ h => h) rfl ?_ HS ?_
      rotate_left
      · intro w' hS'
        obtain ⟨s0, s1, s2, s3⟩ := hS'
        go_simp
        rfl
      rotate_left
      go_frame
      refine takeT (i := 12) (v := ?_) rfl rfl (by kernel_rfl) (fun _ _ _ h => h) rfl ?_ HS ?_
      rotate_left
      · intro w' hS'
        obtain ⟨s0, s1, s2, s3⟩ := hS'
        go_simp
        rfl
      rotate_left
      go_frame
      refine takeT (i := 13) (v := ?_) rfl rfl (by kernel_rfl) (fun _ _ _ h => h) rfl ?_ HS ?_
      rotate_left
      · intro w' hS'
        obtain ⟨s0, s1, s2, s3⟩ := hS'
        go_simp
        rfl
      rotate_left
      go_frame
      refine takeT (i := 14) (v := ?_) rfl rfl (by kernel_rfl) (fun _ _ _ h => h) rfl ?_ HS ?_
      rotate_left
      · intro w' hS'
        obtain ⟨s0, s1, s2, s3⟩ := hS'
        go_simp
        rfl
      rotate_left
      go_frame
      refine takeT (i := 15) (v := ?_) rfl rfl (by kernel_rfl) (fun _ _ _ h => h) rfl ?_ HS ?_
      rotate_left
      · intro w' hS'
        obtain ⟨s0, s1, s2, s3⟩ := hS'
        go_simp
        rfl
      rotate_left
      go_frame
      refine oneT (i := 16) rfl (by kernel_rfl) (fun K hK => ?_)
      go_simp
      refine hK.out _ _ (fun _ => ?_) ?_
      · exact ⟨(World.cell?_of_block (w := W7) (Below.heap_alloc W7 _ _ wl1)).trans k0, (World.cell?_of_block (w := W7) (Below.heap_alloc W7 _ _ b9)).trans e0, (World.cell?_of_block (w := W7) (Below.heap_alloc W7 _ _ b9)).trans e1, (World.cell?_of_block (w := W7) (Below.heap_alloc W7 _ _ wl)).trans t0⟩
      clear hK K
      refine oneT (i := 17) rfl (by kernel_rfl) (fun K hK => ?_)
      refine step_append_lies _ (by rfl) (.tmp 53) (.tmp 56) 25 (by rfl) (w1.heap.size + 2) 3 i0 (.int .i64 0) 1 8 Try.underlying25 HI.out.1 HI.out.2.1 HI.out.2.2.1 HI.out.2.2.2 rfl (by decide) x1 _ _ (by rfl) (XO1.out.alloc _).drew ⟨W7.heap.size, 0, none⟩ 1 1 [.int .i64 (i : Int)] (by rfl) rfl (World.news_of_block (cs := #[.int .i64 (i : Int)]) (t := 3) (fr := (0, 0)) (heap_alloc_new W7 _)) (by simp [Value.oneCell']) (by decide) (by unfold maxLen; omega) (by omega) (by simp; omega) (W7.heap.size + 1) (by simp) ?_
      intro g1 cap1 V1 hown1 hg1 hat1 hlt1
      have k0' := far_cell hg1 k0 QG1.out
      have e0' := far_cell hg1 e0 QE1.out
      have e1' := far_cell hg1 e1 QE1.out
      have t0' := far_cell hg1 t0 QT1.out
      have f0' := (far_frozen hg1 (a := ⟨w.heap.size, j, none⟩) wl QT1.out).trans f0
      refine hK.out _ _ (fun _ => ⟨k0', e0', e1', t0'⟩) ?_
      clear hK K
      have HS1 : (fun w' : World => w'.cell? ⟨w1.heap.size, 2, none⟩ = some (.slice (some ⟨w.heap.size, 0, none⟩) n n) ∧ w'.cell? ⟨w3.heap.size, 0, none⟩ = some (.int .i64 (i : Int)) ∧ w'.cell? ⟨w3.heap.size, 1, none⟩ = some (.int .i64 (j : Int)) ∧ w'.cell? ⟨w.heap.size, j, none⟩ = some x1) V1 := ⟨k0', e0', e1', t0'⟩
      go_frame
      refine takeT (i := 18) (v := ?_) rfl rfl (by kernel_rfl) (fun _ _ _ h => h) rfl ?_ HS1 ?_
      rotate_left
      · intro w' hS'
        obtain ⟨s0, s1, s2, s3⟩ := hS'
        go_simp
        rfl
      rotate_left
      go_frame
      refine oneT (i := 19) rfl (by kernel_rfl) (fun K hK => ?_)
      go_simp
      refine hK.out _ _ (fun h => absurd rfl h) ?_
      clear hK K
      refine doneT (by kernel_rfl) ?_ 0
      obtain ⟨W9, hW9⟩ : ∃ W, W = V1.setCell ⟨w.heap.size, j, none⟩ (.slice (some ⟨g1, 0, none⟩) ((T7 j).length + 1) cap1) := ⟨_, rfl⟩
      rw [← hW9]
      have R9 := Lib.hid (R7.out.app (y := (i : Int)) hjn XX1.out (by omega) (by omega) hg1 hown1 hat1)
      rw [← hW9] at R9
      have fb : ∀ c, c < W7.heap.size → some c ≠ x1.ownBlock → c ≠ w.heap.size → W9.heap[c]? = W7.heap[c]? := fun c h1 h2 h3 => by rw [hW9]; exact (Below.heap_setCell _ _ _ _ h3).trans (far_block hg1 h1 h2)
      have G9 : Hid (W9.heap[w1.heap.size]? = some (.cells #[.int .i64 (n : Int), .map (some m), .slice (some ⟨w.heap.size, 0, none⟩) n n] 119 (0, 0))) := (fb _ wl1 QG1.out (by omega)).trans G7.out
      have E9 : Hid (W9.heap[w3.heap.size]? = some (.cells #[.int .i64 (i : Int), .int .i64 (j : Int)] 121 (0, 0))) := (fb _ b9 QE1.out (by omega)).trans E7.out
      have hvs : W7.heap.size ≤ V1.heap.size := by have := hg1.size; simp at this; omega
      have B9 : Hid (Below w.heap.size w W9) := by
        rw [hW9]
        exact ((((B7.out.alloc B7.out.size _).drew).grown hg1 (by simp; omega) (fun c hc => by have := (XO1.out.lt c hc).1; omega))).setCell (by simp) _
      have S9 : Hid (Rng W9 m (w1.heap.size + 1) (less L ((i : Int), (j : Int)))) := by
        have h := S7.out
        exact h.frame (fb _ h.lt.1 (fun e => by have := (XO1.out.lt _ e.symm).1; omega) (by omega)) (fb _ h.lt.2 (fun e => by have := (XO1.out.lt _ e.symm).1; omega) (by omega))
      have hsz9 : W7.heap.size ≤ W9.heap.size := by rw [hW9, size_setCell]; exact hvs
      have b9 : w3.heap.size < W9.heap.size := by omega
      clear hW9 fb k0 e0 e1 t0 f0 k0' e0' e1' t0' f0' wl wl1 hvs hg1 hown1 hat1 hlt1 HS HS1 hln
      go_wp2
      go_roundg (less L ((i : Int), (j : Int))).length
      case measure => have := less_lt HP.out; have := HL.out; omega
      case rel =>
        refine ⟨_, _, rfl, ⟨B9.out, S9.out, G9.out, fun p hp => HV'.out.sub p (mem_less.1 hp).1, by omega, ⟨_, R9.out⟩, ?_⟩⟩
        have := HV'.out.fill.step HR.out hij hjn HP.out HV'.out.sub
        rw [HT7.out]
        exact this
end Go.Proofs.Ythbojpaghbbnnaa
