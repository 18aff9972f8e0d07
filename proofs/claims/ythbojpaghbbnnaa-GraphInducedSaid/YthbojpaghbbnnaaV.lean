/- Package graph: Changed. -/
import Derived.Test.YthbojpaghbbnnaaU
namespace Go.Proofs.Ythbojpaghbbnnaa
open Go.RowKit Go.WideMaps Go.Maps
set_option linter.unusedVariables false
set_option linter.unusedSimpArgs false

abbrev Chg := (Int × Int) × Bool
/-- The graph behind a change. -/
def Gr.chg (G : Gr) (c : Chg) : Gr :=
  ⟨G.n, fun a b => if decide (a ≠ b) && ((decide (c.1.1 = a) && decide (c.1.2 = b)) || (decide (c.1.1 = b) && decide (c.1.2 = a))) then !c.2 else G.adj a b⟩
def Gr.changed (G : Gr) (cs : List Chg) : Gr := cs.foldl Gr.chg G
theorem changed_snoc (G : Gr) (cs : List Chg) (c : Chg) : G.changed (cs ++ [c]) = (G.changed cs).chg c := by simp [Gr.changed, List.foldl_append]
theorem changed_n (G : Gr) (cs : List Chg) : (G.changed cs).n = G.n := by
  unfold Gr.changed
  induction cs generalizing G with
  | nil => rfl
  | cons c cs ih => rw [List.foldl_cons, ih]; rfl
theorem chg_adj (G : Gr) (c : Chg) (a b : Nat) : (G.chg c).adj a b = true ↔ (a ≠ b ∧ ((c.1.1 = a ∧ c.1.2 = b) ∨ (c.1.1 = b ∧ c.1.2 = a)) ∧ c.2 = false) ∨ (¬ (a ≠ b ∧ ((c.1.1 = a ∧ c.1.2 = b) ∨ (c.1.1 = b ∧ c.1.2 = a))) ∧ G.adj a b = true) := by
  simp only [Gr.chg]
  by_cases h : a ≠ b ∧ ((c.1.1 = a ∧ c.1.2 = b) ∨ (c.1.1 = b ∧ c.1.2 = a))
  · have : (decide (a ≠ b) && ((decide (c.1.1 = a) && decide (c.1.2 = b)) || (decide (c.1.1 = b) && decide (c.1.2 = a)))) = true := by simpa [-not_and] using h
    rw [if_pos this]
    simp [h]
  · have : (decide (a ≠ b) && ((decide (c.1.1 = a) && decide (c.1.2 = b)) || (decide (c.1.1 = b) && decide (c.1.2 = a)))) = false := by
      rw [← Bool.not_eq_true]; simpa using h
    rw [this, if_neg (by simp)]
    constructor
    · exact fun k => .inr ⟨h, k⟩
    · rintro (k | k)
      · exact absurd ⟨k.1, k.2.1⟩ h
      · exact k.2
theorem chg_ok {G : Gr} (h : G.Ok) {c : Chg} (hc : okP G.n c.1 = true) : (G.chg c).Ok where
  symm u v := by
    rw [Bool.eq_iff_iff, chg_adj, chg_adj, h.symm u v]
    constructor <;>
    · rintro (⟨a1, a2, a3⟩ | ⟨a1, a2⟩)
      · exact .inl ⟨Ne.symm a1, a2.symm, a3⟩
      · exact .inr ⟨fun k => a1 ⟨Ne.symm k.1, k.2.symm⟩, a2⟩
  irr u := by simp [Gr.chg, h.irr]
  rng u v k := by
    have := okP_iff.1 hc
    rcases (chg_adj G c u v).1 k with ⟨_, a2, _⟩ | ⟨_, a2⟩
    · show u < G.n
      omega
    · exact h.rng u v a2
  small := h.small
/-- What a change does to the keys. -/
def stepC (E : List (Int × Int)) (c : Chg) : List (Int × Int) :=
  if c.1.1 = c.1.2 then E else if c.2 then E.filter (· ≠ (min c.1.1 c.1.2, max c.1.1 c.1.2)) else addE E (min c.1.1 c.1.2, max c.1.1 c.1.2)
theorem nodup_addE {E : List (Int × Int)} {p : Int × Int} (h : E.Nodup) : (addE E p).Nodup := by
  unfold addE
  split
  · exact h
  · rename_i hp
    rw [List.nodup_append]
    exact ⟨h, by simp, by intro a ha b hb e; rw [List.mem_singleton.1 hb] at e; exact hp (e ▸ ha)⟩
theorem tells_chg {E : List (Int × Int)} {G : Gr} (hG : G.Ok) (h : Tells E G) {c : Chg} (hc : okP G.n c.1 = true) : Tells (stepC E c) (G.chg c) := by
  obtain ⟨⟨u, v⟩, gone⟩ := c
  have hk := okP_iff.1 hc
  simp only at hk
  have key : ∀ a b : Int, (a, b) ∈ stepC E ((u, v), gone) ↔ (u ≠ v ∧ (a, b) = (min u v, max u v) ∧ gone = false) ∨ (¬ (u ≠ v ∧ (a, b) = (min u v, max u v)) ∧ (a, b) ∈ E) := by
    intro a b
    unfold stepC
    simp only
    by_cases e : u = v
    · rw [if_pos e]; simp [e]
    · rw [if_neg e]
      cases gone
      · rw [if_neg (by simp), mem_addE]
        by_cases e2 : (a, b) = (min u v, max u v)
        · simp [e, e2]
        · simp [e, e2]
      · rw [if_pos rfl]
        by_cases e2 : (a, b) = (min u v, max u v)
        · simp [e2, e]
        · simp [e2, e]
  constructor
  · unfold stepC
    split
    · exact h.1
    · split
      · exact h.1.filter _
      · exact nodup_addE h.1
  · intro a b
    rw [key, h.2]
    constructor
    · rintro (⟨hne, he, hg⟩ | ⟨hn, x, y, rfl, rfl, hl, hk2⟩)
      · injection he with e1 e2
        refine ⟨a.toNat, b.toNat, by omega, by omega, by omega, (chg_adj _ _ _ _).2 (.inl ⟨by omega, ?_, hg⟩)⟩
        simp only
        omega
      · refine ⟨x, y, rfl, rfl, hl, (chg_adj _ _ _ _).2 (.inr ⟨fun k => hn ?_, hk2⟩)⟩
        obtain ⟨k1, k2⟩ := k
        simp only at k2
        rw [Prod.mk.injEq]
        omega
    · rintro ⟨x, y, rfl, rfl, hl, hk2⟩
      rcases (chg_adj _ _ _ _).1 hk2 with ⟨a1, a2, a3⟩ | ⟨a1, a2⟩
      · simp only at a2
        refine .inl ⟨by omega, ?_, a3⟩
        rw [Prod.mk.injEq]
        omega
      · refine .inr ⟨fun k => a1 ⟨by omega, ?_⟩, x, y, rfl, rfl, hl, a2⟩
        obtain ⟨k1, k2⟩ := k
        rw [Prod.mk.injEq] at k2
        simp only
        omega
def ChgInv (w wr : World) (G : Gr) (cs : List Chg) (k : Nat) (E' : List (Int × Int)) : Prop :=
  Below w.heap.size w wr ∧ EMap wr w.heap.size E' ∧ Tells E' (G.changed (cs.take k)) ∧ (G.changed (cs.take k)).Ok ∧ ∀ c ∈ cs.take k, okP G.n c.1 = true
def CopyInv (w wr : World) (m mb r : Nat) (E L : List (Int × Int)) (E' : List (Int × Int)) : Prop :=
  Below w.heap.size w wr ∧ Rng wr m r L ∧ EMap wr mb E' ∧ (∀ p ∈ L, p ∈ E) ∧ (∀ q, q ∈ E' ↔ q ∈ E ∧ q ∉ L) ∧ r < wr.heap.size
set_option maxRecDepth 100000 in
set_option maxHeartbeats 8000000 in
theorem Changed_any (w : World) {lo hi lo' hi' : Nat} {g cv : Value} {G : Gr} {cs : List Chg} (h : PG w lo hi g G) (hk : Chs w lo' hi' cv cs) :
    Calls Try.prog 43 #[g, cv] w fun e w' => Below w.heap.size w w' ∧
      ((∀ c ∈ cs, okP G.n c.1 = true) → ∃ x, e = .returned (.tuple #[x, .int .i64 0]) ∧ PG w' w.heap.size w'.heap.size x (G.changed cs)) ∧
      ((∃ c ∈ cs, okP G.n c.1 = false) → e = .returned (.tuple #[.pointer none, .int .i64 42])) := by
  obtain ⟨b, m, t, c, E, rfl, hc⟩ := h.open_
  obtain ⟨hkl, A, cc, rfl⟩ := hk.form
  have HC := Lib.hid hc
  have HK := Lib.hid hk
  have c1 : (w.alloc (.map #[] 0)).cell? ⟨b, 1, none⟩ = some (.map (some m)) := (World.cell?_of_block (w := w) (Below.heap_alloc w _ b hc.lt)).trans hc.c1
  have hmm := @run_makeMap Try.prog
  have hml := hc.map.lt
  have hsm := hc.ok.small
  clear hc h hk
  go_enter Try.func43, Try.ntmps43
  go_wp2_with (at_range; refine wpl_range rfl (.tmp 14) rfl m (w.heap.size + 1) (by simp) rfl (HC.out.map.frame (Below.heap_alloc w _ m hml)) ?_; intro w2 hrg hg2 hs2)
  go_frame
  go_loopg [7] E.length (fun k s wr => ∃ L E', Hid (L.length = k) ∧ Hid (CopyInv w wr m w.heap.size (w.heap.size + 1) E L E'))
  case atStart =>
    refine ⟨E, [], rfl, ?_, hrg, ?_, fun p hp => hp, fun q => by simp, by omega⟩
    · exact ((Below.refl _ _).alloc (Nat.le_refl _) _).grown hg2 (by simp) (by simp)
    · exact (EMap.made w).frame (hg2.block _ (by simp) (by simp))
  case round =>
    clear hmm c1 hrg hg2 hs2
    obtain ⟨L, E', HL, HI⟩ := hrel
    have hrg1 := HI.out.2.1
    go_wp2_with (at_next; refine wpl_next rfl (.tmp 15) rfl m (w.heap.size + 1) rfl hrg1 ?_ ?_)
    · intro hL
      subst hL
      have hI : ChgInv w wr G cs 0 E' := ⟨HI.out.1, HI.out.2.2.1, ⟨HI.out.2.2.1.nodup, fun a b => by rw [HI.out.2.2.2.2.1]; simp only [List.not_mem_nil, not_false_eq_true, and_true]; exact HC.out.tells.2 a b⟩, HC.out.ok, by simp⟩
      have HI0 := Lib.hid hI
      clear hI hrg1 HI
      obtain ⟨wo, rfl⟩ : ∃ wo : World, wo = wr := ⟨_, rfl⟩
      go_wp2
      go_loopg [24] cs.length (fun g s wr => ∃ k : Nat, g + k = cs.length ∧ s = .int .i64 k ∧ ∃ E', Hid (ChgInv w wr G cs k E'))
      case atStart => exact ⟨0, rfl, rfl, E', HI0⟩
      case round =>
        obtain ⟨k, hk, rfl, E2, H2⟩ := hrel
        have HKk := Lib.hid hk
        clear hk
        by_cases hlt : k < cs.length
        · have hcv := HK.out.at_ H2.out.1
          obtain ⟨bb, off, p, rfl, _, _, hcc, X⟩ := hcv.get encC_len k hlt
          have d0 := hcc 0 (by omega)
          have d1 := hcc 1 (by omega)
          have d2 := hcc 2 (by omega)
          obtain ⟨⟨x, y⟩, gone⟩ := p
          simp only [encC, Nat.add_zero, List.getElem?_cons_zero, List.getElem?_cons_succ] at d0 d1 d2
          clear hcc hcv
          have hmb := H2.out.2.1.lt
          have hsz := H2.out.1.size
          have c0 : ∀ o, (wr.alloc o).cell? ⟨b, 0, none⟩ = some (.int .i64 (G.n : Int)) := fun o => (HC.out.at_ (H2.out.1.alloc H2.out.1.size o)).c0
          have hsp : cs.take (k + 1) = cs.take k ++ [((x, y), gone)] := take_snoc' X.out
          have hn : (G.changed (cs.take k)).n = G.n := changed_n _ _
          by_cases hx : 0 ≤ x ∧ x < G.n
          · by_cases hy : 0 ≤ y ∧ y < G.n
            · have hok : okP G.n ((x, y), gone).1 = true := okP_iff.2 ⟨hx, hy⟩
              have hnext : ∀ w4 : World, Below w.heap.size w w4 → EMap w4 w.heap.size (stepC E2 ((x, y), gone)) → ChgInv w w4 G cs (k + 1) (stepC E2 ((x, y), gone)) := by
                intro w4 hb he
                refine ⟨hb, he, ?_, ?_, ?_⟩
                · rw [hsp, changed_snoc]
                  exact tells_chg H2.out.2.2.2.1 H2.out.2.2.1 (by rw [hn]; exact hok)
                · rw [hsp, changed_snoc]
                  exact chg_ok H2.out.2.2.2.1 (by rw [hn]; exact hok)
                · intro c hc
                  rw [hsp] at hc
                  rcases List.mem_append.1 hc with hc | hc
                  · exact H2.out.2.2.2.2 c hc
                  · rw [List.mem_singleton.1 hc]; exact hok
              have HN := Lib.hid hnext
              clear hnext hok
              by_cases hxy : x = y
              · subst hxy
                go_wp2
                go_quiet ((first | (with_reducible refine (is_yes x _ _ (by omega)).mono ?_; rintro e w' ⟨rfl, rfl⟩; exact ⟨rfl, _, rfl⟩) | (with_reducible refine (is_yes y _ _ (by omega)).mono ?_; rintro e w' ⟨rfl, rfl⟩; exact ⟨rfl, _, rfl⟩)))
                go_wp2
                go_roundg (cs.length - (k + 1))
                case measure => have := HKk.out; omega
                case rel =>
                  refine ⟨k + 1, by omega, by go_num, stepC E2 ((x, x), gone), HN.out _ (below_drewN (H2.out.1.alloc H2.out.1.size _) _) ?_⟩
                  rw [stepC, if_pos rfl]
                  exact H2.out.2.1.frame (Below.heap_alloc _ _ _ hmb)
              · have hb2 : (x == y) = false := by simpa using hxy
                cases hgone : gone with
                | true =>
                  subst hgone
                  go_wp2
                  go_quiet ((first | (with_reducible refine (is_yes x _ _ (by omega)).mono ?_; rintro e w' ⟨rfl, rfl⟩; exact ⟨rfl, _, rfl⟩) | (with_reducible refine (is_yes y _ _ (by omega)).mono ?_; rintro e w' ⟨rfl, rfl⟩; exact ⟨rfl, _, rfl⟩)))
                  go_wp2_with (first
                    | (go_at_call 110; refine (key_any _ _ _).mono ?_; rintro e w' ⟨rfl, rfl⟩)
                    | (at_delete; refine wpl_delete rfl (.tmp 62) (.tmp 67) rfl w.heap.size (min x y) (max x y) rfl rfl ((H2.out.2.1.frame (Below.heap_alloc _ _ _ hmb)).frame (w' := (wr.alloc (.cells #[.int .i64 x, .int .i64 y, .bool true] 46)).drewN nq |>.alloc (.cells #[.int .i64 (min x y), .int .i64 (max x y)] 121)) (Below.heap_alloc _ _ _ (by simp; omega))) (by unfold Wf; omega) (by unfold Wf; omega) ?_; intro w4 hE4 hg4 hs4))
                  go_roundg (cs.length - (k + 1))
                  case measure => have := HKk.out; omega
                  case rel =>
                    refine ⟨k + 1, by omega, by go_num, stepC E2 ((x, y), true), HN.out _ (((below_drewN (H2.out.1.alloc H2.out.1.size _) _).alloc (by have := H2.out.1.size; simp; omega) _).grown hg4 (by have := H2.out.1.size; simp; omega) (fun c hc => by injection hc; omega)) ?_⟩
                    rw [stepC, if_neg hxy, if_pos rfl]
                    exact hE4
                | false =>
                  subst hgone
                  go_wp2
                  go_quiet ((first | (with_reducible refine (is_yes x _ _ (by omega)).mono ?_; rintro e w' ⟨rfl, rfl⟩; exact ⟨rfl, _, rfl⟩) | (with_reducible refine (is_yes y _ _ (by omega)).mono ?_; rintro e w' ⟨rfl, rfl⟩; exact ⟨rfl, _, rfl⟩)))
                  go_wp2_with (first
                    | (go_at_call 110; refine (key_any _ _ _).mono ?_; rintro e w' ⟨rfl, rfl⟩)
                    | (at_mapUpdate; refine wpl_update rfl (.tmp 28) (.tmp 33) _ rfl w.heap.size (min x y) (max x y) rfl rfl rfl ((H2.out.2.1.frame (Below.heap_alloc _ _ _ hmb)).frame (w' := (wr.alloc (.cells #[.int .i64 x, .int .i64 y, .bool false] 46)).drewN nq |>.alloc (.cells #[.int .i64 (min x y), .int .i64 (max x y)] 121)) (Below.heap_alloc _ _ _ (by simp; omega))) (by unfold Wf; omega) (by unfold Wf; omega) ?_; intro w4 hE4 hg4 hs4))
                  go_roundg (cs.length - (k + 1))
                  case measure => have := HKk.out; omega
                  case rel =>
                    refine ⟨k + 1, by omega, by go_num, stepC E2 ((x, y), false), HN.out _ (((below_drewN (H2.out.1.alloc H2.out.1.size _) _).alloc (by have := H2.out.1.size; simp; omega) _).grown hg4 (by have := H2.out.1.size; simp; omega) (fun c hc => by injection hc; omega)) ?_⟩
                    rw [stepC, if_neg hxy, if_neg (by simp)]
                    exact hE4
            · go_wp2
              go_quiet ((first | (with_reducible refine (is_yes x _ _ (by omega)).mono ?_; rintro e w' ⟨rfl, rfl⟩; exact ⟨rfl, _, rfl⟩) | (with_reducible refine (is_no y _ _ (by omega)).mono ?_; rintro e w' ⟨rfl, rfl⟩; exact ⟨rfl, _, rfl⟩)))
              go_wp2
              go_ret2
              have hm : ((x, y), gone) ∈ cs := List.mem_of_getElem? X.out
              exact ⟨below_drewN (H2.out.1.alloc H2.out.1.size _) _, fun h => absurd (okP_iff.1 (h _ hm)).2 hy, fun _ => rfl⟩
          · go_wp2
            go_quiet ((refine (is_no x _ _ (by omega)).mono ?_; rintro e w' ⟨rfl, rfl⟩; exact ⟨rfl, _, rfl⟩))
            go_wp2
            go_ret2
            have hm : ((x, y), gone) ∈ cs := List.mem_of_getElem? X.out
            exact ⟨below_drewN (H2.out.1.alloc H2.out.1.size _) _, fun h => absurd (okP_iff.1 (h _ hm)).1 hx, fun _ => rfl⟩
        · have hke : k = cs.length := by have := HKk.out; omega
          have hI := H2.out
          rw [hke, ChgInv, List.take_length] at hI
          have HI' := Lib.hid hI
          have hed : Edgy G.n E2 := by have := tells_edgy (G := G.changed cs) HI'.out.2.2.2.1 HI'.out.2.2.1; rwa [changed_n] at this
          have HED := Lib.hid hed
          have c0 := (HC.out.at_ HI'.out.1).c0
          have hsz : (w.heap.size : Nat) ≤ w.heap.size := Nat.le_refl _
          clear hI hed H2 hke HKk
          go_wp2_with (go_at_call 109; refine (of_any wr G.n hsm w.heap.size w.heap.size E2 HI'.out.2.1 HED.out (Nat.le_refl _)).mono ?_; rintro e w' ⟨hb, g, rfl, hg⟩; have HB := Lib.hid hb; have HG := Lib.hid hg; clear hb hg)
          go_ret2
          refine ⟨below_then' HI'.out.1 HB.out, fun _ => ⟨g, rfl, ?_⟩, fun ⟨c, hc, h⟩ => ?_⟩
          · have e := ofE_of_tells HI'.out.2.2.2.1 HI'.out.2.2.1
            rw [changed_n] at e
            rw [← e]
            exact HG.out
          · rw [HI'.out.2.2.2.2 c hc] at h; cases h
    · intro x y w3 hp hrg3 hg3 hs3 hen
      obtain ⟨hp0, hp1, hp2⟩ := (tells_edgy HC.out.ok HC.out.tells) (x, y) (HI.out.2.2.2.1 _ hp)
      simp only at hp0 hp1 hp2
      have hB3 : Below w.heap.size w w3 := HI.out.1.grown hg3 HI.out.1.size (fun c hc => by injection hc; omega)
      have hE3 : EMap w3 w.heap.size E' := HI.out.2.2.1.frame (hg3.block _ HI.out.2.2.1.lt (by intro e; injection e; omega))
      have hmb := hE3.lt
      have hr3 := hrg3.lt
      have HB3 := Lib.hid hB3
      have HE3 := Lib.hid hE3
      have HR3 := Lib.hid hrg3
      have HS3 := Lib.hid hs3
      have HP := Lib.hid hp
      clear hB3 hE3 hrg3 hg3 hs3 hrg1 hp
      have hx9 : x ≤ 9223372036854775807 := by omega
      have hy9 : y ≤ 9223372036854775807 := by omega
      unfold kv at hen ⊢
      go_wp2_with (at_mapUpdate; refine wpl_update rfl (.tmp 20) (.tmp 21) _ rfl w.heap.size x y rfl rfl rfl (HE3.out.frame (Below.heap_alloc _ _ _ hmb)) (by unfold Wf; omega) (by unfold Wf; omega) ?_; intro w4 hE4 hg4 hs4)
      go_roundg (less L (x, y)).length
      case measure => have := less_lt HP.out; have := HL.out; omega
      case rel =>
        have hR4 := HR3.out.frame (w' := w3.alloc (.cells #[.int .i64 x, .int .i64 y] 121)) (Below.heap_alloc _ _ _ hr3.1) (Below.heap_alloc _ _ _ hr3.2)
        refine ⟨_, addE E' (x, y), rfl, (HB3.out.alloc HB3.out.size _).grown hg4 (by have := HB3.out.size; simp; omega) (fun c hc => by injection hc; omega), hR4.frame (hg4.block _ hR4.lt.1 (by intro e; injection e; omega)) (hg4.block _ hR4.lt.2 (by intro e; injection e; omega)), hE4, fun p hp => HI.out.2.2.2.1 p (mem_less.1 hp).1, fun q => ?_, by rw [hs4]; simp; omega⟩
        rw [mem_addE, HI.out.2.2.2.2.1, mem_less]
        constructor
        · rintro (⟨a1, a2⟩ | rfl)
          · exact ⟨a1, fun h => a2 h.1⟩
          · exact ⟨HI.out.2.2.2.1 _ HP.out, fun h => h.2 rfl⟩
        · rintro ⟨a1, a2⟩
          by_cases e : q = (x, y)
          · exact .inr e
          · exact .inl ⟨a1, fun h => a2 ⟨h, e⟩⟩
end Go.Proofs.Ythbojpaghbbnnaa
