/- The program's graph in memory, and the contracts of package graph's small functions. -/
import Derived.Test.YthbojpaghbbnnaaC
import Derived.Test.YthbojpaghbbnnaaG
namespace Go.Proofs.Ythbojpaghbbnnaa
open Go.RowKit Go.WideMaps Go.Maps
set_option linter.unusedVariables false
set_option linter.unusedSimpArgs false

theorem infoInt : (Try.prog.info? 3).map (fun i => (i.zero, i.size, i.bytes)) = some (some (.int .i64 0), 1, 8) := by kernel_rfl
theorem infoBool : (Try.prog.info? 4).map (fun i => (i.zero, i.size, i.bytes)) = some (some (.bool false), 1, 1) := by kernel_rfl
theorem infoInts : (Try.prog.info? 25).map (fun i => (i.zero, i.size, i.bytes)) = some (some (.slice none 0 0), 1, 24) := by kernel_rfl
theorem infoPair : (Try.prog.info? 32).map (fun i => (i.zero, i.size, i.bytes)) = some (some (.agg #[.int .i64 0, .int .i64 0]), 2, 16) := by kernel_rfl

/-- Rows of ints: a slice of slices, all between lo and hi. -/
def Rows2 (w : World) (lo hi : Nat) (v : Value) (n : Nat) (T : Nat → List Int) : Prop := ∃ vs, Sl w lo hi 1 v n vs ∧ ∀ i, i < n → ∃ x, vs[i]? = some x ∧ Ints w lo hi x (T i)
theorem Rows2.frame {w w' : World} {lo hi n : Nat} {v : Value} {T : Nat → List Int} (h : Rows2 w lo hi v n T) (s : Same lo hi w w') : Rows2 w' lo hi v n T := by
  obtain ⟨vs, h2, h3⟩ := h
  exact ⟨vs, h2.frame s, fun i hi => by obtain ⟨x, hx, k⟩ := h3 i hi; exact ⟨x, hx, k.frame s⟩⟩
theorem Rows2.get {w : World} {lo hi n c : Nat} {A : Option Addr} {T : Nat → List Int} (h : Rows2 w lo hi (.slice A n c) n T) (k : Nat) (hk : k < n) :
    ∃ b off x, A = some ⟨b, off, none⟩ ∧ lo ≤ b ∧ b < hi ∧ w.cell? ⟨b, off + k, none⟩ = some x ∧ Ints w lo hi x (T k) := by
  obtain ⟨vs, ⟨_, _, _, A', c', e, h4⟩, h3⟩ := h
  injection e with e1 e2 e3
  subst e1
  obtain ⟨b, off, rfl, h5, h6, h7⟩ := h4 (by omega)
  obtain ⟨x, hx, hxi⟩ := h3 k hk
  exact ⟨b, off, x, rfl, h5, h6, (h7 k (by omega)).trans hx, hxi⟩
theorem Rows2.form {w : World} {lo hi n : Nat} {v : Value} {T : Nat → List Int} (h : Rows2 w lo hi v n T) : n ≤ 9223372036854775807 ∧ ∃ A c, v = .slice A n c := by
  obtain ⟨vs, ⟨_, h1, h2, A, c, h3, _⟩, _⟩ := h
  exact ⟨by simpa [maxLen] using h2, A, c, h3⟩
/-- v is the program's graph G, all of it between the blocks lo and hi. -/
def PG (w : World) (lo hi : Nat) (v : Value) (G : Gr) : Prop :=
  G.Ok ∧ hi ≤ w.heap.size ∧ ∃ b m t c E, v = .pointer (some ⟨b, 0, none⟩) ∧ lo ≤ b ∧ b < hi ∧ w.heap[b]? = some (.cells #[.int .i64 (G.n : Int), .map (some m), .slice t G.n c] 119 (0, 0)) ∧
    lo ≤ m ∧ m < hi ∧ EMap w m E ∧ Tells E G ∧ Rows2 w lo hi (.slice t G.n c) G.n (fun u => up (G.nb u))
theorem PG.frame {w w' : World} {lo hi : Nat} {v : Value} {G : Gr} (h : PG w lo hi v G) (s : Same lo hi w w') : PG w' lo hi v G := by
  obtain ⟨h0, h1, b, m, t, c, E, h2, h3, h4, h5, h6, h7, h8, h9, h10⟩ := h
  exact ⟨h0, Nat.le_trans h1 s.1, b, m, t, c, E, h2, h3, h4, (s.2 b h3 h4).trans h5, h6, h7, h8.frame (s.2 m h6 h7), h9, h10.frame s⟩
theorem PG.at_ {w w' : World} {lo hi : Nat} {v : Value} {G : Gr} (h : PG w lo hi v G) (b : Below w.heap.size w w') : PG w' lo hi v G := h.frame (same_below b h.2.1)
theorem PG.ok {w : World} {lo hi : Nat} {v : Value} {G : Gr} (h : PG w lo hi v G) : G.Ok := h.1
/-- The cells of a graph's struct, as a walk wants them. -/
theorem cell_of {w : World} {b : Nat} {cs : Array Value} {t : TypeId} (h : w.heap[b]? = some (.cells cs t (0, 0))) (j : Nat) : w.cell? ⟨b, j, none⟩ = cs[j]? := by simp [World.cell?, h]
theorem free_of {w : World} {b : Nat} {cs : Array Value} {t : TypeId} (h : w.heap[b]? = some (.cells cs t (0, 0))) (j : Nat) : w.frozen? ⟨b, j, none⟩ = false := by simp [World.frozen?, h]

set_option maxHeartbeats 400000 in
theorem is_any (v n : Int) (w : World) :
    Calls Try.prog 107 #[.int .i64 v, .int .i64 n] w fun e w' => e = .returned (.bool (decide (0 ≤ v) && decide (v < n))) ∧ w = w' := by
  go_enter Try.func107, Try.ntmps107
  go_wp2
  all_goals go_ret
  · rename_i h
    exact ⟨by simp [h], rfl⟩
  · rename_i h
    exact ⟨by simp [Int.not_le.2 h], rfl⟩
set_option maxHeartbeats 400000 in
theorem kept_any (w : World) {lo hi : Nat} {a : Value} {xs : List Bool} (ha : Bools w lo hi a xs) (v : Int) (h0 : 0 ≤ v) (h1 : v ≤ 9223372036854775807) :
    Calls Try.prog 106 #[a, .int .i64 v] w fun e w' => e = .returned (.bool (xs.getD v.toNat false)) ∧ w = w' := by
  obtain ⟨hl, A, c, rfl⟩ := ha.form
  obtain ⟨k, rfl⟩ := Int.eq_ofNat_of_zero_le h0
  rw [Int.toNat_natCast]
  by_cases hlt : k < xs.length
  · obtain ⟨b, off, x, rfl, _, _, g, X⟩ := ha.get k hlt
    have hx : xs.getD k false = x := by rw [List.getD_eq_getElem?_getD, X.out]; rfl
    clear X ha
    rw [hx]
    clear hx
    go_enter Try.func106, Try.ntmps106
    go_wp2
    go_ret
    exact ⟨rfl, rfl⟩
  · have hx : xs.getD k false = false := by rw [List.getD_eq_getElem?_getD, List.getElem?_eq_none (by omega)]; rfl
    have hd : decide (k < xs.length) = false := by simpa using hlt
    rw [hx]
    clear hx ha
    go_enter Try.func106, Try.ntmps106
    go_wp2
    go_ret
    exact ⟨rfl, rfl⟩
set_option maxHeartbeats 400000 in
theorem key_any (u v : Int) (w : World) :
    Calls Try.prog 110 #[.int .i64 u, .int .i64 v] w fun e w' => e = .returned (kv (min u v) (max u v)) ∧ w' = w.alloc (.cells #[.int .i64 (min u v), .int .i64 (max u v)] 121) := by
  by_cases h : u ≤ v
  · rw [show min u v = u from by omega, show max u v = v from by omega]
    go_enter Try.func110, Try.ntmps110
    go_wp2
    · refine bodyPost_ret (v := kv u v) (by simp [results, Try.results110, go_sem, kv]) rfl ⟨rfl, rfl⟩
    · have e : v = u := by omega
      subst e
      refine bodyPost_ret (v := kv v v) (by simp [results, Try.results110, go_sem, kv]) rfl ⟨rfl, rfl⟩
  · rw [show min u v = v from by omega, show max u v = u from by omega]
    go_enter Try.func110, Try.ntmps110
    go_wp2
    refine bodyPost_ret (v := kv v u) (by simp [results, Try.results110, go_sem, kv]) rfl ⟨rfl, rfl⟩
set_option maxHeartbeats 400000 in
theorem N_any (w : World) {lo hi : Nat} {g : Value} {G : Gr} (h : PG w lo hi g G) :
    Calls Try.prog 93 #[g] w fun e w' => e = .returned (.int .i64 (G.n : Int)) ∧ w = w' := by
  obtain ⟨_, _, b, m, t, c, E, rfl, _, _, h1, _⟩ := h
  have c0 : w.cell? ⟨b, 0, none⟩ = some (.int .i64 (G.n : Int)) := cell_of h1 0
  clear h1
  go_enter Try.func93, Try.ntmps93
  go_wp2
  go_ret
  exact ⟨rfl, rfl⟩
end Go.Proofs.Ythbojpaghbbnnaa
