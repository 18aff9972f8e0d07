/- Package graph: Parts. -/
import Derived.Test.YthbojpaghbbnnaaW
namespace Go.Proofs.Ythbojpaghbbnnaa
open Go.RowKit Go.WideMaps Go.Maps
set_option linter.unusedVariables false
set_option linter.unusedSimpArgs false

theorem infoInt' : (Try.prog.info? 3).map (fun i => (i.zero, i.size, i.bytes)) = some (some (.int .i64 0), 1, 8) := infoInt
abbrev kK (keep : List Bool) : Nat → Bool := fun x => keep.getD x false
abbrev OI (w : World) (base : Nat) (v : Value) (xs : List Int) : Prop := Own1 w base 3 (Value.int .i64) v xs
structure PA (w wr : World) (n : Nat) (p : List Int) : Prop where
  below : Below w.heap.size w wr
  own : OI wr w.heap.size (.slice (some ⟨w.heap.size, 0, none⟩) n n) p
  len : p.length = n
theorem PA.size {w wr : World} {n : Nat} {p : List Int} (h : PA w wr n p) : w.heap.size < wr.heap.size := (h.own.lt rfl).2
structure PC (w wr : World) (n : Nat) (p : List Int) (tv : Value) (todo : List Int) : Prop where
  a : PA w wr n p
  t : OI wr (w.heap.size + 1) tv todo
theorem PA.set {w wr : World} {n k : Nat} {p : List Int} (h : PA w wr n p) (hk : k < n) (y : Int) : PA w (wr.setCell ⟨w.heap.size, k, none⟩ (.int .i64 y)) n (p.set k y) :=
  ⟨h.below.setCell (Nat.le_refl _) _, h.own.set k (by rw [h.len]; exact hk) y, by rw [List.length_set, h.len]⟩
theorem PC.set {w wr : World} {n k : Nat} {p todo : List Int} {tv : Value} (h : PC w wr n p tv todo) (hk : k < n) (y : Int) : PC w (wr.setCell ⟨w.heap.size, k, none⟩ (.int .i64 y)) n (p.set k y) tv todo :=
  ⟨h.a.set hk y, h.t.kept (grown_set _ _ _) (.inr (h.t.ne (by simp)))⟩
set_option maxRecDepth 100000 in
set_option maxHeartbeats 8000000 in
theorem Parts_any (w : World) {lo hi lo' hi' : Nat} {g kv' : Value} {G : Gr} {keep : List Bool} (h : PG w lo hi g G) (hk : Bools w lo' hi' kv' keep) :
    Calls Try.prog 37 #[g, kv'] w fun e w' => Below w.heap.size w w' ∧ ∃ x p, e = .returned x ∧ w'.ownsRow w.heap.size 3 1 x p.length (p.map (Value.int .i64)) ∧ Parted G (kK keep) p := by
  obtain ⟨b, m, t, c, E, rfl, hc⟩ := h.open_
  obtain ⟨hkl, A, cc, rfl⟩ := hk.form
  have HC := Lib.hid hc
  have HK := Lib.hid hk
  have c0 := hc.c0
  have hsm := hc.ok.small
  clear hc h hk
  go_enter Try.func37, Try.ntmps37
  go_wp2_with (at_make; refine mk_full (W := w) w.heap.size rfl (.tmp 15) (.tmp 15) 25 3 _ 8 rfl Try.underlying25 infoInt rfl (by decide) _ _ G.n rfl rfl rfl rfl (by omega) (Nat.le_refl _) ?_; intro w1 hown hgr)
  have ha : PA w w1 G.n (List.replicate G.n 0) := ⟨(Below.refl _ _).grown hgr (Nat.le_refl _) (by simp), by unfold OI Own1; simpa using hown, by simp⟩
  have HA := Lib.hid ha
  clear hown ha hgr
  go_loopg [19] G.n (fun g s wr => ∃ k : Nat, g + k = G.n ∧ s = .int .i64 k ∧ Hid (PA w wr G.n (List.replicate k (-1) ++ List.replicate (G.n - k) 0)))
  case atStart => exact ⟨0, rfl, rfl, by simpa using HA⟩
  case round =>
    clear HA c0
    obtain ⟨k, hk, rfl, HI⟩ := hrel
    have HKk := Lib.hid hk
    clear hk
    by_cases hlt : k < G.n
    · obtain ⟨g0, x0, hA0, _, _, g1, g2, _⟩ := HI.out.own.get k (by rw [HI.out.len]; exact hlt)
      injection hA0 with hA0
      injection hA0 with hA0
      subst hA0
      go_wp2
      go_roundg (G.n - (k + 1))
      case measure => have := HKk.out; omega
      case rel =>
        refine ⟨k + 1, by omega, by go_num, ?_⟩
        have h1 := HI.out.set hlt (-1)
        have e : (List.replicate k (-1 : Int) ++ List.replicate (G.n - k) 0).set k (-1) = List.replicate (k + 1) (-1) ++ List.replicate (G.n - (k + 1)) 0 := by
          rw [show G.n - k = (G.n - (k + 1)) + 1 from by omega, List.replicate_succ (n := G.n - (k + 1)), List.set_append_right _ _ (by simp)]
          simp [List.replicate_succ']
        rw [e] at h1
        exact h1
    · have hke : k = G.n := by have := HKk.out; omega
      subst hke
      have HB : Hid (PA w wr G.n (List.replicate G.n (-1))) := by have := HI.out; rw [Nat.sub_self, List.replicate_zero, List.append_nil] at this; exact this
      clear HI HKk
      obtain ⟨wo, rfl⟩ : ∃ wo : World, wo = wr := ⟨_, rfl⟩
      go_wp2
      go_loopg [28] G.n (fun g s wr => ∃ v : Nat, g + v = G.n ∧ s = .int .i64 v ∧ ∃ p, Hid (PA w wr G.n p) ∧ Hid (PInv G (kK keep) v v p (fun _ _ => False)))
      case atStart => exact ⟨0, rfl, rfl, _, HB, PInv.start HC.out.ok _⟩
      case round =>
        clear HB
        obtain ⟨v, hk, rfl, p, HI, HP⟩ := hrel
        have HKv := Lib.hid hk
        clear hk
        by_cases hlt : v < G.n
        · obtain ⟨g0, a, hA0, _, _, g1, g2, HV⟩ := HI.out.own.get v (by rw [HI.out.len]; exact hlt)
          injection hA0 with hA0
          injection hA0 with hA0
          subst hA0
          have hv9 : (v : Int) ≤ 9223372036854775807 := by omega
          by_cases hneg : a = -1
          · subst hneg
            have HKW : Hid (Bools wr lo' hi' (.slice A keep.length cc) keep) := HK.out.at_ HI.out.below
            cases hkv : keep.getD v false with
            | false =>
              have HX := Lib.hid hkv
              clear hkv
              go_wp2_with (go_at_call 106; refine (kept_is _ HKW.out (v : Int) (by omega) hv9 false HX.out).mono ?_; rintro e w' ⟨rfl, rfl⟩)
              go_roundg (G.n - (v + 1))
              case measure => have := HKv.out; omega
              case rel => exact ⟨v + 1, by omega, by go_num, p, HI, HP.out.skip (fun h => by rw [kK, HX.out] at h; cases h)⟩
            | true =>
              have HX := Lib.hid hkv
              clear hkv
              go_wp2_with (go_at_call 106; refine (kept_is _ HKW.out (v : Int) (by omega) hv9 true HX.out).mono ?_; rintro e w' ⟨rfl, rfl⟩)
              have h1 : PC w ((wr.setCell ⟨w.heap.size, v, none⟩ (.int .i64 v)).alloc (.cells #[.int .i64 v] 3)) G.n (p.set v v) (.slice (some ⟨wr.heap.size, 0, none⟩) 1 1) [(v : Int)] := by
                have a1 := HI.out.set hlt (v : Int)
                have hsz := HI.out.size
                refine ⟨⟨a1.below.alloc a1.below.size _, a1.own.alloc _, a1.len⟩, by simp, .inr ⟨wr.heap.size, 1, #[.int .i64 v], rfl, by omega, ?_, by simp, by decide, rfl, rfl⟩⟩
                have := heap_alloc_new (wr.setCell ⟨w.heap.size, v, none⟩ (.int .i64 v)) (.cells #[.int .i64 v] 3)
                rwa [size_setCell] at this
              have h2 := Srch.root HP.out hlt HV.out HX.out
              have H1 := Lib.hid h1
              have H2 := Lib.hid h2
              clear h1 h2 g1 g2
              obtain ⟨wo, rfl⟩ : ∃ wo : World, wo = wr := ⟨_, rfl⟩
              go_loopg [8] (2 * cnt (p.set v v) + 1) (fun g tv wr => ∃ p todo, Hid (g = 2 * cnt p + todo.length) ∧ Hid (PC w wr G.n p tv todo) ∧ Hid (Srch G (kK keep) v p todo (fun _ _ => False)))
              case atStart => exact ⟨p.set v v, [(v : Int)], rfl, H1, H2⟩
              case round =>
                clear H1 H2 HI HP HV HKW
                obtain ⟨p, todo, HM, HI, HS⟩ := hrel
                obtain ⟨hl9, A, c, rfl⟩ := HI.out.t.form
                rcases List.eq_nil_or_concat todo with rfl | ⟨ys, z, rfl⟩
                · go_wp2
                  go_roundg (G.n - (v + 1))
                  case measure => have := HKv.out; omega
                  case rel => exact ⟨v + 1, by omega, by go_num, p, HI.out.a, HS.out.over⟩
                · rw [List.concat_eq_append] at HM HI HS hl9 ⊢
                  obtain ⟨u, rfl, hun, hup⟩ := HS.out.tds z (by simp)
                  obtain ⟨hS, _, _⟩ := HS.out.pop HC.out.ok
                  have HS1 := Lib.hid hS
                  have HUP := Lib.hid hup
                  have hT := HI.out.t
                  rw [List.length_append, List.length_singleton] at hT hl9 ⊢
                  have hy9 : ys.length ≤ 9223372036854775806 := by omega
                  obtain ⟨gt, x, rfl, hgt0, hgt1, t1, _, hx⟩ := hT.get ys.length (by simp)
                  have ex : x = (u : Int) := by have := hx.out; simp at this; exact this.symm
                  subst ex
                  have hPop := Lib.hid (show OI wr (w.heap.size + 1) (.slice (some ⟨gt, 0, none⟩) ys.length c) ys from hT.pop)
                  have HA := Lib.hid HI.out.a
                  have hlm := HM.out
                  rw [List.length_append, List.length_singleton] at hlm
                  have HLM := Lib.hid hlm
                  have hcap : ys.length ≤ c := by have := hT.cap.1; simp at this; omega
                  have hcap9 : c ≤ 9223372036854775807 := hT.cap.2
                  clear hx hT hS hup HS HI HM hlm
                  have d2 := (HC.out.at_ HA.out.below).c2
                  obtain ⟨bb, off, x, rfl, _, hbhi, r0, hxr⟩ := HC.out.rows.get u hun
                  have r1 := (World.cell?_of_block (w := w) (w' := wr) (a := ⟨bb, off + u, none⟩) (HA.out.below.block bb (Nat.lt_of_lt_of_le hbhi HC.out.le))).trans r0
                  obtain ⟨hr9, A3, c3, rfl⟩ := hxr.form
                  have HXR := Lib.hid hxr
                  have HPC : Hid (PC w wr G.n p (.slice (some ⟨gt, 0, none⟩) ys.length c) ys) := ⟨HA.out, hPop.out⟩
                  clear hxr r0 hPop
                  go_wp2
                  obtain ⟨wo2, rfl⟩ : ∃ wo2 : World, wo2 = wr := ⟨_, rfl⟩
                  obtain ⟨gM, rfl⟩ : ∃ gM : Nat, gM = gk := ⟨_, rfl⟩
                  go_loopg [70, 8] (up (G.nb u)).length (fun g s tv wr => ∃ (k : Nat) (p : List Int) (todo : List Int), Hid (g + k = (up (G.nb u)).length) ∧ s = .int .i64 k ∧ Hid (PC w wr G.n p tv todo) ∧ Hid (Srch G (kK keep) v p todo (Next G u k)) ∧ Hid (p[u]? = some (v : Int)) ∧ Hid (2 * cnt p + todo.length < gM))
                  case atStart => exact ⟨0, p, ys, by simp [Hid], rfl, HPC, HS1, HUP, by have := HLM.out; show _ < _; omega⟩
                  case round =>
                    clear HPC HS1 HUP HLM t1 r1 d2 HA hy9 hl9 hcap hcap9
                    obtain ⟨k, p, todo, HKu, rfl, HI, HS, HUP, HLT⟩ := hrel
                    obtain ⟨hl9, A5, c5, rfl⟩ := HI.out.t.form
                    by_cases hlk : k < (up (G.nb u)).length
                    · have hxr := HXR.out.at_ HI.out.a.below
                      obtain ⟨b7, o7, x7, rfl, _, _, q7, hx7⟩ := hxr.get k hlk
                      have hkn : k < (G.nb u).length := by rwa [up_length] at hlk
                      obtain ⟨z, hz⟩ : ∃ z, (G.nb u)[k]? = some z := ⟨_, List.getElem?_eq_getElem hkn⟩
                      have hx8 := hx7.out
                      rw [up, List.getElem?_map, hz] at hx8
                      injection hx8 with hx8
                      subst hx8
                      have hzn : z < G.n := HC.out.ok.rng' ((Gr.mem_nb HC.out.ok).1 (List.mem_of_getElem? hz))
                      have HZ := Lib.hid hz
                      obtain ⟨g0, a, hA0, _, _, e1, e2, HV⟩ := HI.out.a.own.get z (by rw [HI.out.a.len]; exact hzn)
                      injection hA0 with hA0
                      injection hA0 with hA0
                      subst hA0
                      have HKW : Hid (Bools wr lo' hi' (.slice A keep.length cc) keep) := HK.out.at_ HI.out.a.below
                      have hz9 : (z : Int) ≤ 9223372036854775807 := by omega
                      clear hx7 hz hxr
                      by_cases hneg : a = -1
                      · subst hneg
                        cases hkz : keep.getD z false with
                        | false =>
                          have HX2 := Lib.hid hkz
                          clear hkz
                          go_wp2_with (go_at_call 106; refine (kept_is _ HKW.out (z : Int) (by omega) hz9 false HX2.out).mono ?_; rintro e w' ⟨rfl, rfl⟩)
                          go_roundg ((up (G.nb u)).length - (k + 1))
                          case measure => have := HKu.out; omega
                          case rel => exact ⟨k + 1, p, todo, by show _ = _; omega, by go_num, HI, HS.out.pass HC.out.ok HUP.out HZ.out (fun h => by rw [kK, HX2.out] at h; cases h), HUP, HLT⟩
                        | true =>
                          have HX2 := Lib.hid hkz
                          clear hkz
                          have hpush := HS.out.push HC.out.ok HUP.out HZ.out HX2.out HV.out
                          have hfew := HS.out.few
                          have h1 := Lib.hid (HI.out.set hzn (v : Int))
                          have hcnt := cnt_set (r := (v : Int)) HV.out (by omega)
                          have H1 := Lib.hid hpush
                          have H2 := Lib.hid hcnt
                          have H3 := Lib.hid hfew
                          clear hpush hcnt hfew
                          go_wp2_with (first
                            | (go_at_call 106; refine (kept_is _ HKW.out (z : Int) (by omega) hz9 true HX2.out).mono ?_; rintro e w' ⟨rfl, rfl⟩)
                            | (at_builtin; refine app_one (W := wr.setCell ⟨w.heap.size, z, none⟩ (.int .i64 (v : Int))) (w.heap.size + 1) rfl (.tmp 88) (.tmp 90) 25 3 _ 1 8 rfl Try.underlying25 infoInt rfl (by decide) (by decide) _ _ _ #[.int .i64 (z : Int)] rfl (by rw [size_setCell]; rfl) rfl (by simp [Value.oneCell']) h1.out.t (by have := h1.out.a.size; omega) (by have := H3.out; omega) ?_; intro v1 w1 hown1 hg1 _; have HW1 := Lib.hid hown1; have HG1 := Lib.hid hg1; clear hown1 hg1))
                          go_roundg ((up (G.nb u)).length - (k + 1))
                          case measure => have := HKu.out; omega
                          case rel =>
                            have hne : ∀ q, some q = (Value.slice A5 todo.length c5).ownBlock → w.heap.size + 1 ≤ q := fun q hq => (h1.out.t.lt hq.symm).1
                            refine ⟨k + 1, p.set z v, todo ++ [(z : Int)], by show _ = _; omega, by go_num, ⟨⟨h1.out.a.below.grown HG1.out h1.out.a.below.size (fun q hq => by have := hne q hq.symm; omega), h1.out.a.own.kept HG1.out (.inr (fun hq => by have := hne w.heap.size hq; omega)), h1.out.a.len⟩, ?_⟩, H1.out.1, H1.out.2, ?_⟩
                            · have := HW1.out
                              unfold OI Own1
                              rw [List.length_append, List.map_append]
                              exact this
                            · have := HLT.out
                              have := H2.out
                              show _ < _
                              rw [List.length_append, List.length_singleton]
                              omega
                      · have hge : 0 ≤ a := by
                          rcases HS.out.inv.lab z a HV.out with e | ⟨r, e, _⟩
                          · exact absurd e hneg
                          · omega
                        have hng : ¬ a < 0 := by omega
                        go_wp2
                        go_roundg ((up (G.nb u)).length - (k + 1))
                        case measure => have := HKu.out; omega
                        case rel => exact ⟨k + 1, p, todo, by show _ = _; omega, by go_num, HI, HS.out.pass HC.out.ok HUP.out HZ.out (fun _ h => hneg (by rw [HV.out] at h; injection h)), HUP, HLT⟩
                    · go_wp2
                      go_roundg (2 * cnt p + todo.length)
                      case measure => exact HLT.out
                      case rel => exact ⟨p, todo, rfl, HI, HS.out.rest (by rw [up_length] at hlk; omega)⟩
          · have hge : 0 ≤ a := by
              rcases HP.out.lab v a HV.out with e | ⟨r, e, _⟩
              · exact absurd e hneg
              · omega
            go_wp2
            go_roundg (G.n - (v + 1))
            case measure => have := HKv.out; omega
            case rel => exact ⟨v + 1, by omega, by go_num, p, HI, HP.out.skip (fun _ h => hneg (by rw [HV.out] at h; injection h))⟩
        · have hke : v = G.n := by have := HKv.out; omega
          subst hke
          go_wp2
          go_ret
          have hI := HI.out
          exact ⟨hI.below, _, p, rfl, hI.own, HP.out⟩
end Go.Proofs.Ythbojpaghbbnnaa
