/- pithref's comparisons and copies. Printed by wip/tools/mkJ.py. -/
import Derived.Test.YthbojpaghbbnnaaX
namespace Go.Proofs.Ythbojpaghbbnnaa
open Go.RowKit
set_option linter.unusedVariables false
set_option linter.unusedSimpArgs false
theorem infoChange : (Try.prog.info? 46).map (fun i => (i.zero, i.size, i.bytes)) = some (some (.agg #[.int .i64 0, .int .i64 0, .bool false]), 3, 24) := by kernel_rfl
theorem take_eq_step {α : Type} {xs ys : List α} {k : Nat} {x y : α} (h : xs.take k = ys.take k) (hx : xs[k]? = some x) (hy : ys[k]? = some y) (e : x = y) : xs.take (k + 1) = ys.take (k + 1) := by
  rw [take_snoc' hx, take_snoc' hy, h, e]
theorem ne_of_get {α : Type} {xs ys : List α} {k : Nat} {x y : α} (hx : xs[k]? = some x) (hy : ys[k]? = some y) (e : x ≠ y) : xs ≠ ys := by
  rintro rfl
  rw [hx] at hy
  injection hy with hy
  exact e hy
theorem eq_of_take {α : Type} {xs ys : List α} {k : Nat} (h : xs.take k = ys.take k) (hx : xs.length ≤ k) (hy : ys.length ≤ k) : xs = ys := by
  rwa [List.take_of_length_le hx, List.take_of_length_le hy] at h
/-- A row of structs that the call owns. -/
def OwnS {α : Type} (w : World) (base : Nat) (e : TypeId) (enc : α → List Value) (sz : Nat) (v : Value) (xs : List α) : Prop := w.ownsRow base e sz v xs.length (xs.flatMap enc)

set_option maxRecDepth 100000 in
set_option maxHeartbeats 2000000 in
theorem SameInts_any (w : World) {lo hi lo' hi' : Nat} {a b : Value} {xs ys : List Int} (ha : Ints w lo hi a xs) (hb : Ints w lo' hi' b ys) :
    Calls Try.prog 53 #[a, b] w fun e w' => e = .returned (.bool (decide (xs = ys))) ∧ Below w.heap.size w w' := by
  obtain ⟨hl1, A, c, rfl⟩ := ha.form
  obtain ⟨hl2, B, d, rfl⟩ := hb.form
  by_cases hl : xs.length = ys.length
  · have Hl := Lib.hid hl
    have hl3 : xs.length ≤ ys.length := by omega
    have hne : (((xs.length : Nat) : Int) != (ys.length : Int)) = false := by simp [hl]
    clear hl
    go_enter Try.func53, Try.ntmps53
    go_wp2
    go_loopw [5] (fun i wr => ∃ k : Nat, k ≤ xs.length ∧ i = .int .i64 k ∧ Hid (∃ nq, wr = w.drewN nq) ∧ Hid (xs.take k = ys.take k)) (fun i _ => xs.length - (intOf i).toNat)
    case atStart => exact ⟨0, by omega, rfl, ⟨0, rfl⟩, by simp [Hid]⟩
    case round =>
      obtain ⟨k, hk, rfl, HQ, HJ⟩ := hrel
      obtain ⟨nq, rfl⟩ := HQ.out
      clear HQ
      by_cases hlt : k < xs.length
      · obtain ⟨b, off, x, rfl, _, _, g1, X⟩ := ha.get k hlt
        obtain ⟨b', off', y, rfl, _, _, g2, Y⟩ := hb.get k (by omega)
        by_cases he0 : x = y
        · have hq0 : (x == y) = true := by simp [he0]
          have E0 := Lib.hid he0
          clear he0
          have hst := take_eq_step HJ.out X.out Y.out (by rw [E0.out])
          have HJ' := Lib.hid hst
          clear hst X Y
          go_wp2
          go_quiet (fail)
          go_wp2
          go_roundw
          case rel => exact ⟨k + 1, by omega, by go_num, ⟨_, rfl⟩, HJ'⟩
          case measure => simp [intOf]; omega
        · have hq0 : (x == y) = false := by simp [he0]
          have hd : decide (xs = ys) = false := decide_eq_false (ne_of_get X.out Y.out he0)
          have hd' := Lib.hid hd
          clear hd he0 X Y
          go_wp2
          go_quiet (fail)
          go_wp2
          go_ret
          exact ⟨by rw [hd'.out]; rfl, below_drewN (below_drewN (Below.refl _ _) _) _⟩
      · have hd : decide (xs = ys) = true := decide_eq_true (eq_of_take HJ.out (by omega) (by have := Hl.out; omega))
        have hd' := Lib.hid hd
        clear hd
        go_wp2
        go_ret
        exact ⟨by rw [hd'.out]; rfl, below_drewN (Below.refl _ _) _⟩
  · have hne : (((xs.length : Nat) : Int) != (ys.length : Int)) = true := by simp; omega
    have hd : decide (xs = ys) = false := decide_eq_false (by intro h; exact hl (by rw [h]))
    have hd' := Lib.hid hd
    clear hd hl
    go_enter Try.func53, Try.ntmps53
    go_wp2
    go_ret
    exact ⟨by rw [hd'.out]; rfl, Below.refl _ _⟩

set_option maxRecDepth 100000 in
set_option maxHeartbeats 2000000 in
theorem RInts_any (w : World) {lo hi : Nat} {a : Value} {xs : List Int} (ha : Ints w lo hi a xs) (hx : xs.length * 8 ≤ 140737488351232) :
    Calls Try.prog 67 #[a] w fun e w' => Below w.heap.size w w' ∧ ∃ v, e = .returned v ∧ Own1 w' w.heap.size 3 (Value.int .i64) v xs := by
  obtain ⟨hl1, A, c, rfl⟩ := ha.form
  have HX := Lib.hid hx
  clear hx
  go_enter Try.func67, Try.ntmps67
  go_wp2_with (at_make; refine mk_cap (W := w) w.heap.size rfl _ _ 25 3 _ 1 8 rfl Try.underlying25 infoInt (by decide) _ xs.length rfl rfl rfl (by have := HX.out; omega) (Nat.le_refl _) ?_; intro w1 hown hgr; have hb := (Below.refl w.heap.size w).grown hgr (Nat.le_refl _) (by simp); clear hgr)
  go_loopw [3, 4] (fun v i wr => ∃ k : Nat, k ≤ xs.length ∧ i = .int .i64 k ∧ Below w.heap.size w wr ∧ wr.ownsRow w.heap.size 3 1 v k ((xs.take k).map (Value.int .i64))) (fun _ i _ => xs.length - (intOf i).toNat)
  case atStart => exact ⟨0, by omega, rfl, hb, hown⟩
  case round =>
    clear hb hown
    obtain ⟨k, hk, rfl, hb, hown⟩ := hrel
    by_cases hlt : k < xs.length
    · obtain ⟨b, off, x, rfl, _, _, g1, X⟩ := (ha.at_ hb).get k hlt
      go_wp2_with (at_builtin; refine app_one w.heap.size rfl (.tmp 14) (.tmp 19) 25 3 _ 1 8 rfl Try.underlying25 infoInt rfl (by decide) (by decide) _ k _ #[.int .i64 x] rfl rfl rfl (by simp [Value.oneCell']) hown hb.size (by have := HX.out; omega) ?_; intro v1 w1 hown1 hg1 _; have hb1 := below_app hb hown hg1 (Nat.le_refl _); clear hg1)
      go_roundw
      case rel => exact ⟨k + 1, by omega, by go_num, hb1, by rw [take_snoc' X.out, List.map_append]; exact hown1⟩
      case measure => simp [intOf]; omega
    · go_wp2
      go_ret
      obtain rfl : k = xs.length := by omega
      rw [List.take_length] at hown
      exact ⟨hb, _, rfl, hown⟩

set_option maxRecDepth 100000 in
set_option maxHeartbeats 2000000 in
theorem SameBools_any (w : World) {lo hi lo' hi' : Nat} {a b : Value} {xs ys : List Bool} (ha : Bools w lo hi a xs) (hb : Bools w lo' hi' b ys) :
    Calls Try.prog 118 #[a, b] w fun e w' => e = .returned (.bool (decide (xs = ys))) ∧ Below w.heap.size w w' := by
  obtain ⟨hl1, A, c, rfl⟩ := ha.form
  obtain ⟨hl2, B, d, rfl⟩ := hb.form
  by_cases hl : xs.length = ys.length
  · have Hl := Lib.hid hl
    have hl3 : xs.length ≤ ys.length := by omega
    have hne : (((xs.length : Nat) : Int) != (ys.length : Int)) = false := by simp [hl]
    clear hl
    go_enter Try.func118, Try.ntmps118
    go_wp2
    go_loopw [5] (fun i wr => ∃ k : Nat, k ≤ xs.length ∧ i = .int .i64 k ∧ Hid (∃ nq, wr = w.drewN nq) ∧ Hid (xs.take k = ys.take k)) (fun i _ => xs.length - (intOf i).toNat)
    case atStart => exact ⟨0, by omega, rfl, ⟨0, rfl⟩, by simp [Hid]⟩
    case round =>
      obtain ⟨k, hk, rfl, HQ, HJ⟩ := hrel
      obtain ⟨nq, rfl⟩ := HQ.out
      clear HQ
      by_cases hlt : k < xs.length
      · obtain ⟨b, off, x, rfl, _, _, g1, X⟩ := ha.get k hlt
        obtain ⟨b', off', y, rfl, _, _, g2, Y⟩ := hb.get k (by omega)
        by_cases he0 : x = y
        · have hq0 : (x == y) = true := by simp [he0]
          have E0 := Lib.hid he0
          clear he0
          have hst := take_eq_step HJ.out X.out Y.out (by rw [E0.out])
          have HJ' := Lib.hid hst
          clear hst X Y
          go_wp2
          go_quiet (fail)
          go_wp2
          go_roundw
          case rel => exact ⟨k + 1, by omega, by go_num, ⟨_, rfl⟩, HJ'⟩
          case measure => simp [intOf]; omega
        · have hq0 : (x == y) = false := by simp [he0]
          have hd : decide (xs = ys) = false := decide_eq_false (ne_of_get X.out Y.out he0)
          have hd' := Lib.hid hd
          clear hd he0 X Y
          go_wp2
          go_quiet (fail)
          go_wp2
          go_ret
          exact ⟨by rw [hd'.out]; rfl, below_drewN (below_drewN (Below.refl _ _) _) _⟩
      · have hd : decide (xs = ys) = true := decide_eq_true (eq_of_take HJ.out (by omega) (by have := Hl.out; omega))
        have hd' := Lib.hid hd
        clear hd
        go_wp2
        go_ret
        exact ⟨by rw [hd'.out]; rfl, below_drewN (Below.refl _ _) _⟩
  · have hne : (((xs.length : Nat) : Int) != (ys.length : Int)) = true := by simp; omega
    have hd : decide (xs = ys) = false := decide_eq_false (by intro h; exact hl (by rw [h]))
    have hd' := Lib.hid hd
    clear hd hl
    go_enter Try.func118, Try.ntmps118
    go_wp2
    go_ret
    exact ⟨by rw [hd'.out]; rfl, Below.refl _ _⟩

set_option maxRecDepth 100000 in
set_option maxHeartbeats 2000000 in
theorem RBools_any (w : World) {lo hi : Nat} {a : Value} {xs : List Bool} (ha : Bools w lo hi a xs) (hx : xs.length * 1 ≤ 140737488351232) :
    Calls Try.prog 117 #[a] w fun e w' => Below w.heap.size w w' ∧ ∃ v, e = .returned v ∧ Own1 w' w.heap.size 4 (Value.bool) v xs := by
  obtain ⟨hl1, A, c, rfl⟩ := ha.form
  have HX := Lib.hid hx
  clear hx
  go_enter Try.func117, Try.ntmps117
  go_wp2_with (at_make; refine mk_cap (W := w) w.heap.size rfl _ _ 24 4 _ 1 1 rfl Try.underlying24 infoBool (by decide) _ xs.length rfl rfl rfl (by have := HX.out; omega) (Nat.le_refl _) ?_; intro w1 hown hgr; have hb := (Below.refl w.heap.size w).grown hgr (Nat.le_refl _) (by simp); clear hgr)
  go_loopw [3, 4] (fun v i wr => ∃ k : Nat, k ≤ xs.length ∧ i = .int .i64 k ∧ Below w.heap.size w wr ∧ wr.ownsRow w.heap.size 4 1 v k ((xs.take k).map (Value.bool))) (fun _ i _ => xs.length - (intOf i).toNat)
  case atStart => exact ⟨0, by omega, rfl, hb, hown⟩
  case round =>
    clear hb hown
    obtain ⟨k, hk, rfl, hb, hown⟩ := hrel
    by_cases hlt : k < xs.length
    · obtain ⟨b, off, x, rfl, _, _, g1, X⟩ := (ha.at_ hb).get k hlt
      go_wp2_with (at_builtin; refine app_one w.heap.size rfl (.tmp 14) (.tmp 19) 24 4 _ 1 1 rfl Try.underlying24 infoBool rfl (by decide) (by decide) _ k _ #[.bool x] rfl rfl rfl (by simp [Value.oneCell']) hown hb.size (by have := HX.out; omega) ?_; intro v1 w1 hown1 hg1 _; have hb1 := below_app hb hown hg1 (Nat.le_refl _); clear hg1)
      go_roundw
      case rel => exact ⟨k + 1, by omega, by go_num, hb1, by rw [take_snoc' X.out, List.map_append]; exact hown1⟩
      case measure => simp [intOf]; omega
    · go_wp2
      go_ret
      obtain rfl : k = xs.length := by omega
      rw [List.take_length] at hown
      exact ⟨hb, _, rfl, hown⟩

set_option maxRecDepth 100000 in
set_option maxHeartbeats 2000000 in
theorem SamePairs_any (w : World) {lo hi lo' hi' : Nat} {a b : Value} {xs ys : List (Int × Int)} (ha : Prs w lo hi a xs) (hb : Prs w lo' hi' b ys) :
    Calls Try.prog 60 #[a, b] w fun e w' => e = .returned (.bool (decide (xs = ys))) ∧ Below w.heap.size w w' := by
  obtain ⟨hl1, A, c, rfl⟩ := ha.form
  obtain ⟨hl2, B, d, rfl⟩ := hb.form
  by_cases hl : xs.length = ys.length
  · have Hl := Lib.hid hl
    have hl3 : xs.length ≤ ys.length := by omega
    have hne : (((xs.length : Nat) : Int) != (ys.length : Int)) = false := by simp [hl]
    clear hl
    go_enter Try.func60, Try.ntmps60
    go_wp2
    go_loopw [5] (fun i wr => ∃ k : Nat, k ≤ xs.length ∧ i = .int .i64 k ∧ Hid (∃ nq, wr = w.drewN nq) ∧ Hid (xs.take k = ys.take k)) (fun i _ => xs.length - (intOf i).toNat)
    case atStart => exact ⟨0, by omega, rfl, ⟨0, rfl⟩, by simp [Hid]⟩
    case round =>
      obtain ⟨k, hk, rfl, HQ, HJ⟩ := hrel
      obtain ⟨nq, rfl⟩ := HQ.out
      clear HQ
      by_cases hlt : k < xs.length
      · obtain ⟨b, off, x, rfl, _, _, gx, X⟩ := ha.get encP_len k hlt
        obtain ⟨b', off', y, rfl, _, _, gy, Y⟩ := hb.get encP_len k (by omega)
        have px0 := gx 0 (by omega)
        have px1 := gx 1 (by omega)
        have py0 := gy 0 (by omega)
        have py1 := gy 1 (by omega)
        obtain ⟨x1, x2⟩ := x
        obtain ⟨y1, y2⟩ := y
        simp only [encP, Nat.add_zero, List.getElem?_cons_zero, List.getElem?_cons_succ] at px0 px1 py0 py1
        clear gx gy
        by_cases he0 : x1 = y1
        · have hq0 : (x1 == y1) = true := by simp [he0]
          have E0 := Lib.hid he0
          clear he0
          by_cases he1 : x2 = y2
          · have hq1 : (x2 == y2) = true := by simp [he1]
            have E1 := Lib.hid he1
            clear he1
            have hst := take_eq_step HJ.out X.out Y.out (by rw [E0.out, E1.out])
            have HJ' := Lib.hid hst
            clear hst X Y
            go_wp2
            go_quiet (fail)
            go_wp2
            go_roundw
            case rel => exact ⟨k + 1, by omega, by go_num, ⟨_, rfl⟩, HJ'⟩
            case measure => simp [intOf]; omega
          · have hq1 : (x2 == y2) = false := by simp [he1]
            have hd : decide (xs = ys) = false := decide_eq_false (ne_of_get X.out Y.out (by intro e; simp only [Prod.mk.injEq] at e; exact he1 (by simp [e])))
            have hd' := Lib.hid hd
            clear hd he1 X Y
            go_wp2
            go_quiet (fail)
            go_wp2
            go_ret
            exact ⟨by rw [hd'.out]; rfl, below_drewN (below_drewN (Below.refl _ _) _) _⟩
        · have hq0 : (x1 == y1) = false := by simp [he0]
          have hd : decide (xs = ys) = false := decide_eq_false (ne_of_get X.out Y.out (by intro e; simp only [Prod.mk.injEq] at e; exact he0 (by simp [e])))
          have hd' := Lib.hid hd
          clear hd he0 X Y
          go_wp2
          go_quiet (fail)
          go_wp2
          go_ret
          exact ⟨by rw [hd'.out]; rfl, below_drewN (below_drewN (Below.refl _ _) _) _⟩
      · have hd : decide (xs = ys) = true := decide_eq_true (eq_of_take HJ.out (by omega) (by have := Hl.out; omega))
        have hd' := Lib.hid hd
        clear hd
        go_wp2
        go_ret
        exact ⟨by rw [hd'.out]; rfl, below_drewN (Below.refl _ _) _⟩
  · have hne : (((xs.length : Nat) : Int) != (ys.length : Int)) = true := by simp; omega
    have hd : decide (xs = ys) = false := decide_eq_false (by intro h; exact hl (by rw [h]))
    have hd' := Lib.hid hd
    clear hd hl
    go_enter Try.func60, Try.ntmps60
    go_wp2
    go_ret
    exact ⟨by rw [hd'.out]; rfl, Below.refl _ _⟩

set_option maxRecDepth 100000 in
set_option maxHeartbeats 2000000 in
theorem RPairs_any (w : World) {lo hi : Nat} {a : Value} {xs : List (Int × Int)} (ha : Prs w lo hi a xs) (hx : xs.length * 16 ≤ 140737488351232) :
    Calls Try.prog 34 #[a] w fun e w' => Below w.heap.size w w' ∧ ∃ v, e = .returned v ∧ OwnS w' w.heap.size 32 encP 2 v xs := by
  obtain ⟨hl1, A, c, rfl⟩ := ha.form
  have HX := Lib.hid hx
  clear hx
  go_enter Try.func34, Try.ntmps34
  go_wp2_with (at_make; refine mk_cap (W := w) w.heap.size rfl _ _ 23 32 _ 2 16 rfl Try.underlying23 infoPair (by decide) _ xs.length rfl rfl rfl (by have := HX.out; omega) (Nat.le_refl _) ?_; intro w1 hown hgr; have hb := (Below.refl w.heap.size w).grown hgr (Nat.le_refl _) (by simp); clear hgr)
  go_loopw [3, 4] (fun v i wr => ∃ k : Nat, k ≤ xs.length ∧ i = .int .i64 k ∧ Below w.heap.size w wr ∧ wr.ownsRow w.heap.size 32 2 v k ((xs.take k).flatMap encP)) (fun _ i _ => xs.length - (intOf i).toNat)
  case atStart => exact ⟨0, by omega, rfl, hb, hown⟩
  case round =>
    clear hb hown
    obtain ⟨k, hk, rfl, hb, hown⟩ := hrel
    by_cases hlt : k < xs.length
    · obtain ⟨b, off, x, rfl, _, _, gx, X⟩ := (ha.at_ hb).get encP_len k hlt
      have px0 := gx 0 (by omega)
      have px1 := gx 1 (by omega)
      obtain ⟨x1, x2⟩ := x
      simp only [encP, Nat.add_zero, List.getElem?_cons_zero, List.getElem?_cons_succ] at px0 px1
      clear gx
      go_wp2_with (at_builtin; refine app_one w.heap.size rfl (.tmp 14) (.tmp 19) 23 32 _ 2 16 rfl Try.underlying23 infoPair rfl (by decide) (by decide) _ k _ #[.int .i64 x1, .int .i64 x2] rfl rfl rfl (by simp [Value.oneCell']) hown hb.size (by have := HX.out; omega) ?_; intro v1 w1 hown1 hg1 _; have hb1 := below_app hb hown hg1 (Nat.le_refl _); clear hg1)
      go_roundw
      case rel => exact ⟨k + 1, by omega, by go_num, hb1, by rw [take_snoc' X.out, List.flatMap_append]; exact hown1⟩
      case measure => simp [intOf]; omega
    · go_wp2
      go_ret
      obtain rfl : k = xs.length := by omega
      rw [List.take_length] at hown
      exact ⟨hb, _, rfl, hown⟩

set_option maxRecDepth 100000 in
set_option maxHeartbeats 2000000 in
theorem SameChanges_any (w : World) {lo hi lo' hi' : Nat} {a b : Value} {xs ys : List Chg} (ha : Chs w lo hi a xs) (hb : Chs w lo' hi' b ys) :
    Calls Try.prog 58 #[a, b] w fun e w' => e = .returned (.bool (decide (xs = ys))) ∧ Below w.heap.size w w' := by
  obtain ⟨hl1, A, c, rfl⟩ := ha.form
  obtain ⟨hl2, B, d, rfl⟩ := hb.form
  by_cases hl : xs.length = ys.length
  · have Hl := Lib.hid hl
    have hl3 : xs.length ≤ ys.length := by omega
    have hne : (((xs.length : Nat) : Int) != (ys.length : Int)) = false := by simp [hl]
    clear hl
    go_enter Try.func58, Try.ntmps58
    go_wp2
    go_loopw [5] (fun i wr => ∃ k : Nat, k ≤ xs.length ∧ i = .int .i64 k ∧ Hid (∃ nq, wr = w.drewN nq) ∧ Hid (xs.take k = ys.take k)) (fun i _ => xs.length - (intOf i).toNat)
    case atStart => exact ⟨0, by omega, rfl, ⟨0, rfl⟩, by simp [Hid]⟩
    case round =>
      obtain ⟨k, hk, rfl, HQ, HJ⟩ := hrel
      obtain ⟨nq, rfl⟩ := HQ.out
      clear HQ
      by_cases hlt : k < xs.length
      · obtain ⟨b, off, x, rfl, _, _, gx, X⟩ := ha.get encC_len k hlt
        obtain ⟨b', off', y, rfl, _, _, gy, Y⟩ := hb.get encC_len k (by omega)
        have px0 := gx 0 (by omega)
        have px1 := gx 1 (by omega)
        have px2 := gx 2 (by omega)
        have py0 := gy 0 (by omega)
        have py1 := gy 1 (by omega)
        have py2 := gy 2 (by omega)
        obtain ⟨⟨x1, x2⟩, x3⟩ := x
        obtain ⟨⟨y1, y2⟩, y3⟩ := y
        simp only [encC, Nat.add_zero, List.getElem?_cons_zero, List.getElem?_cons_succ] at px0 px1 px2 py0 py1 py2
        clear gx gy
        by_cases he0 : x1 = y1
        · have hq0 : (x1 == y1) = true := by simp [he0]
          have E0 := Lib.hid he0
          clear he0
          by_cases he1 : x2 = y2
          · have hq1 : (x2 == y2) = true := by simp [he1]
            have E1 := Lib.hid he1
            clear he1
            by_cases he2 : x3 = y3
            · have hq2 : (x3 == y3) = true := by simp [he2]
              have E2 := Lib.hid he2
              clear he2
              have hst := take_eq_step HJ.out X.out Y.out (by rw [E0.out, E1.out, E2.out])
              have HJ' := Lib.hid hst
              clear hst X Y
              go_wp2
              go_quiet (fail)
              go_wp2
              go_roundw
              case rel => exact ⟨k + 1, by omega, by go_num, ⟨_, rfl⟩, HJ'⟩
              case measure => simp [intOf]; omega
            · have hq2 : (x3 == y3) = false := by simp [he2]
              have hd : decide (xs = ys) = false := decide_eq_false (ne_of_get X.out Y.out (by intro e; simp only [Prod.mk.injEq] at e; exact he2 (by simp [e])))
              have hd' := Lib.hid hd
              clear hd he2 X Y
              go_wp2
              go_quiet (fail)
              go_wp2
              go_ret
              exact ⟨by rw [hd'.out]; rfl, below_drewN (below_drewN (Below.refl _ _) _) _⟩
          · have hq1 : (x2 == y2) = false := by simp [he1]
            have hd : decide (xs = ys) = false := decide_eq_false (ne_of_get X.out Y.out (by intro e; simp only [Prod.mk.injEq] at e; exact he1 (by simp [e])))
            have hd' := Lib.hid hd
            clear hd he1 X Y
            go_wp2
            go_quiet (fail)
            go_wp2
            go_ret
            exact ⟨by rw [hd'.out]; rfl, below_drewN (below_drewN (Below.refl _ _) _) _⟩
        · have hq0 : (x1 == y1) = false := by simp [he0]
          have hd : decide (xs = ys) = false := decide_eq_false (ne_of_get X.out Y.out (by intro e; simp only [Prod.mk.injEq] at e; exact he0 (by simp [e])))
          have hd' := Lib.hid hd
          clear hd he0 X Y
          go_wp2
          go_quiet (fail)
          go_wp2
          go_ret
          exact ⟨by rw [hd'.out]; rfl, below_drewN (below_drewN (Below.refl _ _) _) _⟩
      · have hd : decide (xs = ys) = true := decide_eq_true (eq_of_take HJ.out (by omega) (by have := Hl.out; omega))
        have hd' := Lib.hid hd
        clear hd
        go_wp2
        go_ret
        exact ⟨by rw [hd'.out]; rfl, below_drewN (Below.refl _ _) _⟩
  · have hne : (((xs.length : Nat) : Int) != (ys.length : Int)) = true := by simp; omega
    have hd : decide (xs = ys) = false := decide_eq_false (by intro h; exact hl (by rw [h]))
    have hd' := Lib.hid hd
    clear hd hl
    go_enter Try.func58, Try.ntmps58
    go_wp2
    go_ret
    exact ⟨by rw [hd'.out]; rfl, Below.refl _ _⟩

set_option maxRecDepth 100000 in
set_option maxHeartbeats 2000000 in
theorem RChanges_any (w : World) {lo hi : Nat} {a : Value} {xs : List Chg} (ha : Chs w lo hi a xs) (hx : xs.length * 24 ≤ 140737488351232) :
    Calls Try.prog 56 #[a] w fun e w' => Below w.heap.size w w' ∧ ∃ v, e = .returned v ∧ OwnS w' w.heap.size 46 encC 3 v xs := by
  obtain ⟨hl1, A, c, rfl⟩ := ha.form
  have HX := Lib.hid hx
  clear hx
  go_enter Try.func56, Try.ntmps56
  go_wp2_with (at_make; refine mk_cap (W := w) w.heap.size rfl _ _ 47 46 _ 3 24 rfl Try.underlying47 infoChange (by decide) _ xs.length rfl rfl rfl (by have := HX.out; omega) (Nat.le_refl _) ?_; intro w1 hown hgr; have hb := (Below.refl w.heap.size w).grown hgr (Nat.le_refl _) (by simp); clear hgr)
  go_loopw [3, 4] (fun v i wr => ∃ k : Nat, k ≤ xs.length ∧ i = .int .i64 k ∧ Below w.heap.size w wr ∧ wr.ownsRow w.heap.size 46 3 v k ((xs.take k).flatMap encC)) (fun _ i _ => xs.length - (intOf i).toNat)
  case atStart => exact ⟨0, by omega, rfl, hb, hown⟩
  case round =>
    clear hb hown
    obtain ⟨k, hk, rfl, hb, hown⟩ := hrel
    by_cases hlt : k < xs.length
    · obtain ⟨b, off, x, rfl, _, _, gx, X⟩ := (ha.at_ hb).get encC_len k hlt
      have px0 := gx 0 (by omega)
      have px1 := gx 1 (by omega)
      have px2 := gx 2 (by omega)
      obtain ⟨⟨x1, x2⟩, x3⟩ := x
      simp only [encC, Nat.add_zero, List.getElem?_cons_zero, List.getElem?_cons_succ] at px0 px1 px2
      clear gx
      go_wp2_with (at_builtin; refine app_one w.heap.size rfl (.tmp 14) (.tmp 19) 47 46 _ 3 24 rfl Try.underlying47 infoChange rfl (by decide) (by decide) _ k _ #[.int .i64 x1, .int .i64 x2, .bool x3] rfl rfl rfl (by simp [Value.oneCell']) hown hb.size (by have := HX.out; omega) ?_; intro v1 w1 hown1 hg1 _; have hb1 := below_app hb hown hg1 (Nat.le_refl _); clear hg1)
      go_roundw
      case rel => exact ⟨k + 1, by omega, by go_num, hb1, by rw [take_snoc' X.out, List.flatMap_append]; exact hown1⟩
      case measure => simp [intOf]; omega
    · go_wp2
      go_ret
      obtain rfl : k = xs.length := by omega
      rw [List.take_length] at hown
      exact ⟨hb, _, rfl, hown⟩

end Go.Proofs.Ythbojpaghbbnnaa
