/- Package graph: what a graph tells. -/
import Derived.Test.YthbojpaghbbnnaaM
namespace Go.Proofs.Ythbojpaghbbnnaa
open Go.RowKit Go.WideMaps Go.Maps
set_option linter.unusedVariables false
set_option linter.unusedSimpArgs false

/-- The graph's struct opened: block b, the map in block m, the rows t. -/
structure PGc (w : World) (lo hi b m : Nat) (t : Option Addr) (c : Nat) (E : List (Int × Int)) (G : Gr) : Prop where
  ok : G.Ok
  lt : b < w.heap.size
  c0 : w.cell? ⟨b, 0, none⟩ = some (.int .i64 (G.n : Int))
  c1 : w.cell? ⟨b, 1, none⟩ = some (.map (some m))
  c2 : w.cell? ⟨b, 2, none⟩ = some (.slice t G.n c)
  map : EMap w m E
  tells : Tells E G
  le : hi ≤ w.heap.size
  rows : Rows2 w lo hi (.slice t G.n c) G.n (fun u => up (G.nb u))
theorem PG.open_ {w : World} {lo hi : Nat} {g : Value} {G : Gr} (h : PG w lo hi g G) : ∃ b m t c E, g = .pointer (some ⟨b, 0, none⟩) ∧ PGc w lo hi b m t c E G := by
  obtain ⟨h0, h1, b, m, t, c, E, rfl, h3, h4, h5, h6, h7, h8, h9, h10⟩ := h
  exact ⟨b, m, t, c, E, rfl, h0, (Array.getElem?_eq_some_iff.1 h5).1, cell_of h5 0, cell_of h5 1, cell_of h5 2, h8, h9, h1, h10⟩
theorem PGc.at_ {w w' : World} {lo hi b m : Nat} {t : Option Addr} {c : Nat} {E : List (Int × Int)} {G : Gr} (h : PGc w lo hi b m t c E G) (k : Below w.heap.size w w') : PGc w' lo hi b m t c E G where
  ok := h.ok
  lt := Nat.lt_of_lt_of_le h.lt k.size
  c0 := (k.cell (p := ⟨b, 0, none⟩) h.lt).trans h.c0
  c1 := (k.cell (p := ⟨b, 1, none⟩) h.lt).trans h.c1
  c2 := (k.cell (p := ⟨b, 2, none⟩) h.lt).trans h.c2
  map := h.map.frame (k.block m h.map.lt)
  tells := h.tells
  le := Nat.le_trans h.le k.size
  rows := h.rows.frame (same_below k h.le)
set_option maxHeartbeats 400000 in
theorem Edges_any (w : World) {lo hi : Nat} {g : Value} {G : Gr} (h : PG w lo hi g G) :
    Calls Try.prog 45 #[g] w fun e w' => e = .returned (.int .i64 (G.edges : Int)) ∧ w = w' := by
  obtain ⟨b, m, t, c, E, rfl, hc⟩ := h.open_
  have c1 := hc.c1
  obtain ⟨es, clock, hb, h2, h3, h4⟩ := hc.map
  have hl : es.size = G.edges := by
    rw [← hc.tells.length hc.ok]
    have := congrArg List.length h3
    simpa using this
  have hrun : (Builtin.len_ #[117] 3 #[.map (some m)]).run Try.prog w = .ok (.int .i64 (es.size : Int)) w := by
    simp [Builtin.len_, run_underlying Try.underlying117, MapKept.run_getObj_map hb, Result.andThen]
    rfl
  rw [← hl]
  clear hl h3 h2 h4 hc
  go_enter Try.func45, Try.ntmps45
  go_wp2
  go_ret
  exact ⟨rfl, rfl⟩
set_option maxHeartbeats 400000 in
theorem Degree_any (w : World) {lo hi : Nat} {g : Value} {G : Gr} (h : PG w lo hi g G) (v : Int) :
    Calls Try.prog 46 #[g, .int .i64 v] w fun e w' => e = .returned (.int .i64 (if 0 ≤ v then ((G.nb v.toNat).length : Int) else 0)) ∧ w = w' := by
  obtain ⟨b, m, t, c, E, rfl, hc⟩ := h.open_
  have c0 := hc.c0
  have c2 := hc.c2
  by_cases hv : 0 ≤ v ∧ v < G.n
  · obtain ⟨k, rfl⟩ := Int.eq_ofNat_of_zero_le hv.1
    rw [if_pos hv.1, Int.toNat_natCast]
    have hk : k < G.n := by omega
    obtain ⟨bb, off, x, rfl, _, _, g1, hx⟩ := hc.rows.get k hk
    obtain ⟨_, A, cc, rfl⟩ := hx.form
    rw [up_length] at g1
    clear hc hx
    go_enter Try.func46, Try.ntmps46
    go_wp2_with (go_at_call 107; refine (is_yes _ _ _ hv).mono ?_; rintro e w' ⟨rfl, rfl⟩)
    go_ret
    exact ⟨rfl, rfl⟩
  · have e : (if 0 ≤ v then ((G.nb v.toNat).length : Int) else 0) = 0 := by
      split
      · rw [Gr.nb_out hc.ok (by omega)]; rfl
      · rfl
    rw [e]
    clear hc e
    go_enter Try.func46, Try.ntmps46
    go_wp2_with (go_at_call 107; refine (is_no _ _ _ hv).mono ?_; rintro e w' ⟨rfl, rfl⟩)
    go_ret
    exact ⟨rfl, rfl⟩
/-- The neighbours of any number. -/
def Gr.nbz (G : Gr) (v : Int) : List Nat := if 0 ≤ v then G.nb v.toNat else []
set_option maxHeartbeats 400000 in
theorem Neighbours_any (w : World) {lo hi : Nat} {g : Value} {G : Gr} (h : PG w lo hi g G) (v : Int) :
    Calls Try.prog 38 #[g, .int .i64 v] w fun e w' => Below w.heap.size w w' ∧ ∃ x, e = .returned x ∧ w'.ownsRow w.heap.size 3 1 x (G.nbz v).length ((up (G.nbz v)).map (Value.int .i64)) := by
  obtain ⟨b, m, t, c, E, rfl, hc⟩ := h.open_
  have c0 := hc.c0
  have c2 := hc.c2
  by_cases hv : 0 ≤ v ∧ v < G.n
  · obtain ⟨k, rfl⟩ := Int.eq_ofNat_of_zero_le hv.1
    have e : G.nbz (k : Int) = G.nb k := by simp [Gr.nbz]
    rw [e]
    have hk : k < G.n := by omega
    obtain ⟨bb, off, x, rfl, _, _, g1, hx⟩ := hc.rows.get k hk
    have hlen : (up (G.nb k)).length * 8 ≤ 140737488355328 := by have := G.nb_length_le k; have := hc.ok.small; rw [up_length]; omega
    have HX := Lib.hid hx
    have HL := Lib.hid hlen
    clear hc hx hlen e
    go_enter Try.func38, Try.ntmps38
    go_wp2_with (first
      | (go_at_call 107; refine (is_yes _ _ _ hv).mono ?_; rintro e w' ⟨rfl, rfl⟩)
      | (go_at_call 108; refine (Clone_any w HX.out HL.out).mono ?_; rintro e w' ⟨hb, y, rfl, hy⟩; have HB := Lib.hid hb; have HY := Lib.hid hy; clear hb hy))
    go_ret
    exact ⟨HB.out, _, rfl, by have := HY.out; rwa [up_length] at this⟩
  · have e : G.nbz v = [] := by
      unfold Gr.nbz
      split
      · rw [Gr.nb_out hc.ok (by omega)]
      · rfl
    rw [e]
    clear hc e
    go_enter Try.func38, Try.ntmps38
    go_wp2_with (go_at_call 107; refine (is_no _ _ _ hv).mono ?_; rintro e w' ⟨rfl, rfl⟩)
    go_ret
    exact ⟨Below.refl _ _, _, rfl, World.ownsRow_nil _ _ _ _⟩
theorem mem_E {E : List (Int × Int)} {G : Gr} (hG : G.Ok) (h : Tells E G) (u v : Int) : decide ((min u v, max u v) ∈ E) = (decide (0 ≤ u) && decide (0 ≤ v) && G.adj u.toNat v.toNat) := by
  rw [Bool.eq_iff_iff, decide_eq_true_eq, h.2]
  simp only [Bool.and_eq_true, decide_eq_true_eq]
  constructor
  · rintro ⟨a, b, e1, e2, hl, hk⟩
    by_cases huv : u ≤ v
    · have : u.toNat = a := by omega
      have : v.toNat = b := by omega
      subst_vars
      exact ⟨⟨by omega, by omega⟩, hk⟩
    · have : v.toNat = a := by omega
      have : u.toNat = b := by omega
      subst_vars
      rw [hG.symm] at hk
      exact ⟨⟨by omega, by omega⟩, hk⟩
  · rintro ⟨⟨h1, h2⟩, hk⟩
    have hne : u.toNat ≠ v.toNat := fun e => by rw [e, hG.irr] at hk; cases hk
    by_cases huv : u ≤ v
    · exact ⟨u.toNat, v.toNat, by omega, by omega, by omega, hk⟩
    · rw [hG.symm] at hk
      exact ⟨v.toNat, u.toNat, by omega, by omega, by omega, hk⟩
def Gr.has (G : Gr) (u v : Int) : Bool := decide (0 ≤ u) && decide (0 ≤ v) && G.adj u.toNat v.toNat
set_option maxRecDepth 100000 in
set_option maxHeartbeats 1000000 in
theorem Has_any (w : World) {lo hi : Nat} {g : Value} {G : Gr} (h : PG w lo hi g G) (u v : Int) (hu : Wf u) (hv : Wf v) :
    Calls Try.prog 41 #[g, .int .i64 u, .int .i64 v] w fun e w' => e = .returned (.bool (G.has u v)) ∧ Below w.heap.size w w' := by
  obtain ⟨b, m, t, c, E, rfl, hc⟩ := h.open_
  have c0 := hc.c1
  have hbs := hc.lt
  have hms := hc.map.lt
  unfold Gr.has
  rw [← mem_E hc.ok hc.tells u v]
  have HE := Lib.hid hc.map
  clear hc
  have hmin : Wf (min u v) := by unfold Wf at *; omega
  have hmax : Wf (max u v) := by unfold Wf at *; omega
  have HL : ∀ o : Obj, (Instr.lookup 117 (.map (some m)) (kv (min u v) (max u v)) false).run Try.prog ((w.alloc o).drew) = .ok (.bool (decide ((min u v, max u v) ∈ E))) ((w.alloc o).drew) := fun o =>
    EMap.lookup (HE.out.frame (w' := (w.alloc o).drew) (Below.heap_alloc w o m hms)) hmin hmax
  go_enter Try.func41, Try.ntmps41
  go_wp2
  go_region_held3 (fun w' => w'.cell? ⟨b, 1, none⟩ = some (.map (some m))) (first | exact c0 | (go_keep))
    (first | (go_at_call 110; refine (key_any u v _).mono ?_; rintro e w' ⟨rfl, rfl⟩))
  go_wp2
  go_ret
  exact ⟨rfl, ((Below.refl _ _).alloc (Nat.le_refl _) _).drew⟩
end Go.Proofs.Ythbojpaghbbnnaa
