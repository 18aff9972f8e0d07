/- A part of a claim: what its statement needs. No condition. -/
import Derived.Test.YthbojpaghbbnnaaQdbd9eddd7e
namespace Go.Proofs.Ythbojpaghbbnnaa
open Go.RowKit
set_option linter.unusedVariables false
set_option linter.unusedSimpArgs false
theorem infoBoolC : (Try.prog.info? 4).map (fun i => (i.zero, i.size, i.bytes)) = some (some (.bool false), 1, 1) := by kernel_rfl
theorem step_make {P : Program} {W : World} {ops : Array Oper} {o : Oper} {a : Act} {K : Act → World → Prop} {Q : Exit → Act → World → Prop} {E : Prop} (base : Nat)
    (hg : o.guard = none) (l c : Operand) (t e : TypeId) (z : Value) (bytes : Nat) (hop : o.op = Op.makeSlice t l c)
    (ht : P.underlying t = some (.slice e)) (hinfo : (P.info? e).map (fun i => (i.zero, i.size, i.bytes)) = some (some z, 1, bytes)) (hz : z.cells = #[z]) (hb0 : 0 < bytes)
    (L C : Int) (n : Nat) (hl : a.eval l = .int .i64 L) (hc : a.eval c = .int .i64 C) (hL : L = (n : Int)) (hC : C = (n : Int)) (hn : n * bytes ≤ 140737488355328) (hB : base ≤ W.heap.size)
    (hK : ∀ w', w'.ownsRow base e 1 (.slice (some ⟨W.heap.size, 0, none⟩) n n) n (List.replicate n z) → W.grownBy w' none → K (a.put o.dst (.slice (some ⟨W.heap.size, 0, none⟩) n n)) w') :
    if Region.wanted o (yielded ops a.tmps) = true then Oper.wp P o a W K Q else E := by
  obtain ⟨i0, hi, hzz⟩ := Option.map_eq_some_iff.1 hinfo
  simp only [Prod.mk.injEq] at hzz
  obtain ⟨hz0, hz1, hz2⟩ := hzz
  have hm : n ≤ 140737488355328 := Nat.le_trans (Nat.le_mul_of_pos_right _ hb0) hn
  have hw : Region.wanted o (yielded ops a.tmps) = true := by simp [Region.wanted, hg]
  rw [if_pos hw]
  obtain ⟨w', hrun, r1, r2⟩ := run_make_full (P := P) W base t e i0 z 1 ht hi hz0 hz1 .i64 .i64 n (by rw [hz2, Nat.mul_comm]; omega) (by unfold maxLen; omega) hB
  subst hL
  subst hC
  unfold Oper.wp
  simp [execOp, hop, hl, hc, hrun, Result.andThen]
  refine hK w' ?_ r2
  rw [hz, madeCells_one] at r1
  exact r1
theorem getD_of {l : List Int} {x : Nat} {a : Int} (h : l[x]? = some a) : l.getD x 0 = a := by rw [List.getD_eq_getElem?_getD, h]; rfl
theorem own_same {α : Type} {f : α → Value} {w w' : World} {base g n c : Nat} {e : TypeId} {xs : List α} (h : Own1 w base e f (.slice (some ⟨g, 0, none⟩) n c) xs) (hg : w'.heap[g]? = w.heap[g]?) : Own1 w' base e f (.slice (some ⟨g, 0, none⟩) n c) xs := by
  rcases h with ⟨h1, h2 | ⟨g', cap, cur, e1, e2, e3, e4⟩⟩
  · exact ⟨h1, .inl h2⟩
  · refine ⟨h1, .inr ⟨g', cap, cur, e1, e2, ?_, e4⟩⟩
    injection e1 with e1
    injection e1 with e1
    injection e1 with e1
    subst e1
    exact hg.trans e3
theorem rows_kept2 {w w' : World} {base tb n : Nat} {T : Nat → List Int} {vs : List Value} {row : Option Nat} (h : RowsAt w base tb n T vs) (hg : w.grownBy w' row) (h1 : some tb ≠ row) (h2 : ∀ (j : Nat) (x : Value), vs[j]? = some x → x.ownBlock = none ∨ x.ownBlock ≠ row) : RowsAt w' base tb n T vs := by
  obtain ⟨a, b, c, d⟩ := h
  refine ⟨a, (hg.block tb (Array.getElem?_eq_some_iff.1 b).1 h1).trans b, fun i hi => ?_, d⟩
  obtain ⟨x, hx, hxo⟩ := c i hi
  exact ⟨x, hx, hxo.kept hg (h2 i x hx)⟩
theorem rows_pop {w : World} {base tb n i : Nat} {T : Nat → List Int} {vs : List Value} {A : Option Addr} {m c : Nat} {ys : List Int} {y : Int} (h : RowsAt w base tb n T vs) (hi : i < n) (hx : vs[i]? = some (.slice A m c)) (htb : tb < base) (hT : T i = ys ++ [y]) :
    RowsAt (w.setCell ⟨tb, i, none⟩ (.slice A ys.length c)) base tb n (Hx.updT T i ys) (vs.set i (.slice A ys.length c)) := by
  obtain ⟨h1, h2, h3, h4⟩ := h
  have eo : (Value.slice A ys.length c).ownBlock = (Value.slice A m c).ownBlock := by cases A <;> rfl
  refine ⟨by simpa using h1, set_block h2 _, fun k hk => ?_, fun k l a b hkl ha hb => ?_⟩
  · by_cases hki : k = i
    · subst hki
      obtain ⟨z, hz, hzo⟩ := h3 k hk
      rw [hx] at hz
      cases hz
      rw [hT] at hzo
      have hzo' : Own1 w base 3 (Value.int .i64) (.slice A m c) (ys ++ [y]) := hzo
      refine ⟨_, by rw [List.getElem?_set_self (by omega)], ?_⟩
      have e : Hx.updT T k ys k = ys := by unfold Hx.updT; rw [if_pos rfl]
      rw [e]
      exact ownsRow_setCell_below hzo'.pop htb _
    · obtain ⟨z, hz, hzo⟩ := h3 k hk
      have e : Hx.updT T i ys k = T k := by unfold Hx.updT; rw [if_neg hki]
      rw [e]
      exact ⟨z, by rw [List.getElem?_set_ne (Ne.symm hki)]; exact hz, ownsRow_setCell_below hzo htb _⟩
  · by_cases hki : k = i
    · subst hki
      rw [List.getElem?_set_self (by omega)] at ha
      cases ha
      rw [List.getElem?_set_ne hkl] at hb
      rw [eo]
      exact h4 k l _ b hkl hx hb
    · rw [List.getElem?_set_ne (Ne.symm hki)] at ha
      by_cases hli : l = i
      · subst hli
        rw [List.getElem?_set_self (by omega)] at hb
        cases hb
        rw [eo]
        exact h4 k l a _ hkl ha hx
      · rw [List.getElem?_set_ne (Ne.symm hli)] at hb
        exact h4 k l a b hkl ha hb
abbrev OB (w : World) (base : Nat) (v : Value) (xs : List Bool) : Prop := Own1 w base 4 Value.bool v xs
/-- The memory of peel.Cores behind its buckets. -/
structure CM (w wr : World) (n N lb ab tb gb : Nat) (F : Nat → Prop) (left ats : List Int) (gone : List Bool) (T : Nat → List Int) (vs : List Value) : Prop where
  bel : Below w.heap.size w wr
  l : OI wr w.heap.size (.slice (some ⟨lb, 0, none⟩) n n) left
  a : OI wr w.heap.size (.slice (some ⟨ab, 0, none⟩) n n) ats
  g : OB wr w.heap.size (.slice (some ⟨gb, 0, none⟩) n n) gone
  t : RowsAt wr (tb + 1) tb N T vs
  sz : gb < wr.heap.size
  aw : ∀ (j : Nat) (x : Value), vs[j]? = some x → ∀ b, (b = gb ∨ F b) → x.ownBlock ≠ some b
  fs : ∀ b, F b → b < wr.heap.size
section
variable {w wr : World} {n N lb ab tb gb : Nat} {F : Nat → Prop} {left ats : List Int} {gone : List Bool} {T : Nat → List Int} {vs : List Value}
theorem CM.grow {w' : World} (h : CM w wr n N lb ab tb gb F left ats gone T vs) (hg : wr.grownBy w' none) : CM w w' n N lb ab tb gb F left ats gone T vs where
  bel := h.bel.grown hg h.bel.size (by simp)
  l := h.l.kept hg (.inr (by simp [Value.ownBlock]))
  a := h.a.kept hg (.inr (by simp [Value.ownBlock]))
  g := h.g.kept hg (.inr (by simp [Value.ownBlock]))
  t := rows_kept2 h.t hg (by simp) (fun j x hx => by cases x.ownBlock <;> simp)
  sz := Nat.lt_of_lt_of_le h.sz hg.size
  aw := h.aw
  fs b hb := Nat.lt_of_lt_of_le (h.fs b hb) hg.size
theorem CM.setL (h : CM w wr n N lb ab tb gb F left ats gone T vs) (h1 : lb ≠ ab) (h2 : lb < tb) (h3 : tb < gb) {u : Nat} (hu : u < left.length) (y : Int) : CM w (wr.setCell ⟨lb, u, none⟩ (.int .i64 y)) n N lb ab tb gb F (left.set u y) ats gone T vs where
  bel := h.bel.setCell (by exact (h.l.lt rfl).1) _
  l := h.l.set u hu y
  a := h.a.kept (grown_set _ _ _) (.inr (by simp only [Value.ownBlock]; intro e; injection e with e; exact h1 e.symm))
  g := h.g.kept (grown_set _ _ _) (.inr (by simp only [Value.ownBlock]; intro e; injection e with e; omega))
  t := h.t.kept (grown_set _ _ _) (by simp; omega) (fun k e => by injection e with e; have : lb = k := e; omega)
  sz := by rw [size_setCell]; exact h.sz
  aw := h.aw
  fs b hb := by rw [size_setCell]; exact h.fs b hb
theorem CM.setA (h : CM w wr n N lb ab tb gb F left ats gone T vs) (h1 : lb ≠ ab) (h2 : ab < tb) (h3 : tb < gb) {u : Nat} (hu : u < ats.length) (y : Int) : CM w (wr.setCell ⟨ab, u, none⟩ (.int .i64 y)) n N lb ab tb gb F left (ats.set u y) gone T vs where
  bel := h.bel.setCell (by exact (h.a.lt rfl).1) _
  l := h.l.kept (grown_set _ _ _) (.inr (by simp only [Value.ownBlock]; intro e; injection e with e; exact h1 e))
  a := h.a.set u hu y
  g := h.g.kept (grown_set _ _ _) (.inr (by simp only [Value.ownBlock]; intro e; injection e with e; omega))
  t := h.t.kept (grown_set _ _ _) (by simp; omega) (fun k e => by injection e with e; have : ab = k := e; omega)
  sz := by rw [size_setCell]; exact h.sz
  aw := h.aw
  fs b hb := by rw [size_setCell]; exact h.fs b hb
theorem CM.setG (h : CM w wr n N lb ab tb gb F left ats gone T vs) (h1 : lb < tb) (h2 : ab < tb) (h3 : tb < gb) {u : Nat} (hu : u < gone.length) (y : Bool) : CM w (wr.setCell ⟨gb, u, none⟩ (.bool y)) n N lb ab tb gb F left ats (gone.set u y) T vs where
  bel := h.bel.setCell (by exact (h.g.lt rfl).1) _
  l := h.l.kept (grown_set _ _ _) (.inr (by simp only [Value.ownBlock]; intro e; injection e with e; omega))
  a := h.a.kept (grown_set _ _ _) (.inr (by simp only [Value.ownBlock]; intro e; injection e with e; omega))
  g := h.g.set u hu y
  t := rows_kept2 h.t (grown_set _ _ _) (by simp; omega) (fun j x hx => .inr (h.aw j x hx gb (.inl rfl)))
  sz := by rw [size_setCell]; exact h.sz
  aw := h.aw
  fs b hb := by rw [size_setCell]; exact h.fs b hb
theorem CM.pop (h : CM w wr n N lb ab tb gb F left ats gone T vs) (h1 : lb < tb) (h2 : ab < tb) (h3 : tb < gb) (hw : w.heap.size ≤ tb) {i : Nat} {A : Option Addr} {m c : Nat} {ys : List Int} {y : Int} (hi : i < N) (hx : vs[i]? = some (.slice A m c)) (hT : T i = ys ++ [y]) :
    CM w (wr.setCell ⟨tb, i, none⟩ (.slice A ys.length c)) n N lb ab tb gb F left ats gone (Hx.updT T i ys) (vs.set i (.slice A ys.length c)) where
  bel := h.bel.setCell hw _
  l := h.l.kept (grown_set _ _ _) (.inr (by simp only [Value.ownBlock]; intro e; injection e with e; omega))
  a := h.a.kept (grown_set _ _ _) (.inr (by simp only [Value.ownBlock]; intro e; injection e with e; omega))
  g := h.g.kept (grown_set _ _ _) (.inr (by simp only [Value.ownBlock]; intro e; injection e with e; omega))
  t := rows_pop h.t hi hx (Nat.lt_succ_self _) hT
  sz := by rw [size_setCell]; exact h.sz
  aw j x hjx b hb := by
    by_cases e : i = j
    · subst e
      rw [List.getElem?_set_self (by rw [h.t.1]; exact hi)] at hjx
      cases hjx
      rw [show (Value.slice A ys.length c).ownBlock = (Value.slice A m c).ownBlock by cases A <;> rfl]
      exact h.aw i _ hx b hb
    · rw [List.getElem?_set_ne e] at hjx
      exact h.aw j x hjx b hb
  fs b hb := by rw [size_setCell]; exact h.fs b hb
theorem CM.push {W V : World} (h : CM w W n N lb ab tb gb F left ats gone T vs) (h1 : lb < tb) (h2 : ab < tb) (h3 : tb < gb) (hw : w.heap.size ≤ tb) {j g0 cap : Nat} {x1 : Value} {o : Obj} {y : Int} (hj : j < N) (hx : vs[j]? = some x1)
    (hg : ((W.alloc o).drew).grownBy V x1.ownBlock) (hown : V.ownsRow (tb + 1) 3 1 (.slice (some ⟨g0, 0, none⟩) ((T j).length + 1) cap) ((T j).length + 1) ((T j).map (Value.int .i64) ++ [.int .i64 y])) (hat : x1.ownBlock = some g0 ∨ g0 = W.heap.size + 1) :
    CM w (V.setCell ⟨tb, j, none⟩ (.slice (some ⟨g0, 0, none⟩) ((T j).length + 1) cap)) n N lb ab tb gb F left ats gone (Hx.updT T j (T j ++ [y])) (vs.set j (.slice (some ⟨g0, 0, none⟩) ((T j).length + 1) cap)) := by
  obtain ⟨x', hx', hxo⟩ := h.t.2.2.1 j hj
  rw [hx] at hx'
  cases hx'
  have xb := hxo.lt
  have hsz := h.sz
  have hl := (h.l.lt rfl).2
  have ha := (h.a.lt rfl).2
  have hvs : W.heap.size ≤ V.heap.size := by have := hg.size; simp at this; omega
  have fb : ∀ c, c < W.heap.size → some c ≠ x1.ownBlock → c ≠ tb → (V.setCell ⟨tb, j, none⟩ (.slice (some ⟨g0, 0, none⟩) ((T j).length + 1) cap)).heap[c]? = W.heap[c]? := fun c q1 q2 q3 => (Below.heap_setCell _ _ _ _ q3).trans (far_block hg q1 q2)
  refine ⟨((((h.bel.alloc h.bel.size _).drew).grown hg (by have := h.bel.size; simp; omega) (fun c hc => by have := (xb c hc).1; omega))).setCell (by simp; omega) _, own_same h.l (fb lb hl (fun e => by have := (xb _ e.symm).1; omega) (by omega)), own_same h.a (fb ab ha (fun e => by have := (xb _ e.symm).1; omega) (by omega)), own_same h.g (fb gb hsz (fun e => h.aw j x1 hx gb (.inl rfl) e.symm) (by omega)), h.t.app hj hx (Nat.lt_succ_self _) (by omega) hg hown hat, by rw [size_setCell]; omega, fun q x hqx b hb => ?_, fun b hb => by rw [size_setCell]; have := h.fs b hb; omega⟩
  by_cases e : j = q
  · subst e
    rw [List.getElem?_set_self (by rw [h.t.1]; exact hj)] at hqx
    cases hqx
    rcases hat with hat | hat
    · have := h.aw j x1 hx b hb
      rw [hat] at this
      exact this
    · simp only [Value.ownBlock]
      intro e
      injection e with e
      rcases hb with hb | hb
      · omega
      · have := h.fs b hb
        omega
  · rw [List.getElem?_set_ne e] at hqx
    exact h.aw q x hqx b hb
end
theorem nbs_G {G : Gr} (hG : G.Ok) : Hx.Nbs G.n (fun v => up (G.nb v)) where
  rng v hv u hu := by
    obtain ⟨x, hx, rfl⟩ := List.mem_map.1 hu
    have := hG.rng' ((Gr.mem_nb hG).1 hx)
    omega
  irr v hv h := by
    obtain ⟨x, hx, e⟩ := List.mem_map.1 h
    have : x = v := by omega
    subst this
    have := (Gr.mem_nb hG).1 hx
    rw [hG.irr] at this
    cases this
  symm u v hu hv h := by
    obtain ⟨x, hx, e⟩ := List.mem_map.1 h
    have : x = u := by omega
    subst this
    exact List.mem_map.2 ⟨v, (Gr.mem_nb hG).2 (by rw [hG.symm]; exact (Gr.mem_nb hG).1 hx), rfl⟩
  nodup v hv := by
    show ((G.nb v).map (fun x : Nat => (x : Int))).Nodup
    refine List.pairwise_map.2 ?_
    exact (List.Pairwise.filter _ List.nodup_range).imp (fun h e => h (by omega))
theorem sum_le_getD (l : List Int) {m : Int} (h : ∀ u, u < l.length → l.getD u 0 ≤ m) : l.sum ≤ l.length * m := by
  induction l with
  | nil => simp
  | cons x l ih =>
    have h1 := h 0 (by simp)
    have h2 := ih (fun u hu => by have := h (u + 1) (by simpa using hu); simpa using this)
    simp only [List.getD_cons_zero] at h1
    simp only [List.sum_cons, List.length_cons, Int.natCast_add, Int.natCast_one, Int.add_mul, Int.one_mul]
    omega
theorem sum_ge_getD (l : List Int) (h : ∀ u, u < l.length → 0 ≤ l.getD u 0) : 0 ≤ l.sum := by
  induction l with
  | nil => simp
  | cons x l ih =>
    have h1 := h 0 (by simp)
    have h2 := ih (fun u hu => by have := h (u + 1) (by simpa using hu); simpa using this)
    simp only [List.getD_cons_zero] at h1
    simp only [List.sum_cons]
    omega
theorem own_slice' {w : World} {base sz n : Nat} {e : TypeId} {v : Value} {xs : List Value} (h : w.ownsRow base e sz v n xs) : ∃ A c, v = .slice A n c := by
  rcases h.2 with ⟨rfl, rfl⟩ | ⟨g, cap, cur, rfl, _⟩
  · exact ⟨_, _, rfl⟩
  · exact ⟨_, _, rfl⟩
theorem own_same' {α : Type} {f : α → Value} {w w' : World} {base : Nat} {e : TypeId} {v : Value} {xs : List α} (h : Own1 w base e f v xs) (hg : ∀ b, v.ownBlock = some b → w'.heap[b]? = w.heap[b]?) : Own1 w' base e f v xs := by
  rcases h with ⟨h1, h2 | ⟨g', cap, cur, e1, e2, e3, e4⟩⟩
  · exact ⟨h1, .inl h2⟩
  · exact ⟨h1, .inr ⟨g', cap, cur, e1, e2, (hg g' (by rw [e1]; rfl)).trans e3, e4⟩⟩
theorem CM.newF {W W' : World} {w : World} {n N lb ab tb gb : Nat} {left ats : List Int} {gone : List Bool} {T : Nat → List Int} {vs : List Value} (h : CM w W n N lb ab tb gb (fun _ => False) left ats gone T vs) (hg : W.grownBy W' none) (F : Nat → Prop) (hF : ∀ b, F b → W.heap.size ≤ b ∧ b < W'.heap.size) : CM w W' n N lb ab tb gb F left ats gone T vs := by
  have h2 := h.grow hg
  refine ⟨h2.bel, h2.l, h2.a, h2.g, h2.t, h2.sz, fun j x hx b hb => ?_, fun b hb => (hF b hb).2⟩
  rcases hb with hb | hb
  · exact h.aw j x hx b (.inl hb)
  · intro e
    obtain ⟨x', hx', hxo⟩ := h.t.2.2.1 j (by rw [← h.t.1]; exact (List.getElem?_eq_some_iff.1 hx).1)
    rw [hx] at hx'
    cases hx'
    have := (hxo.lt _ e).2
    have := (hF b hb).1
    omega
theorem CM.dropF {W : World} {w : World} {n N lb ab tb gb : Nat} {F : Nat → Prop} {left ats : List Int} {gone : List Bool} {T : Nat → List Int} {vs : List Value} (h : CM w W n N lb ab tb gb F left ats gone T vs) : CM w W n N lb ab tb gb (fun _ => False) left ats gone T vs :=
  ⟨h.bel, h.l, h.a, h.g, h.t, h.sz, fun j x hx b hb => h.aw j x hx b (.inl (hb.elim id False.elim)), fun b hb => hb.elim⟩
theorem CM.push_block {w W V : World} {n N lb ab tb gb : Nat} {F : Nat → Prop} {left ats : List Int} {gone : List Bool} {T : Nat → List Int} {vs : List Value} (h : CM w W n N lb ab tb gb F left ats gone T vs) {j : Nat} {x1 : Value} {o : Obj} {u : Value} (hx : vs[j]? = some x1)
    (hg : ((W.alloc o).drew).grownBy V x1.ownBlock) {b : Nat} (hb : F b) (hbt : b ≠ tb) : (V.setCell ⟨tb, j, none⟩ u).heap[b]? = W.heap[b]? :=
  (Below.heap_setCell _ _ _ _ hbt).trans (far_block hg (h.fs b hb) (fun e => h.aw j x1 hx b (.inr hb) e.symm))
theorem below_grown' {w w' : World} (h : Below w.heap.size w w') : w.grownBy w' none := ⟨h.os, h.tape, h.output, h.size, fun b hb _ => h.block b hb⟩
theorem nbz_nat (G : Gr) (v : Nat) : G.nbz (v : Int) = G.nb v := by
  unfold Gr.nbz
  rw [if_pos (by omega), Int.toNat_natCast]
set_option maxRecDepth 100000 in
set_option maxHeartbeats 8000000 in
theorem cores_walk (w : World) {lo hi : Nat} {g : Value} {G : Gr} (h : PG w lo hi g G) (hn : G.n ≤ 4096) :
    Calls Try.prog 82 #[g] w fun e w' => Below w.heap.size w w' ∧ ∃ x c, e = .returned x ∧ w'.ownsRow w.heap.size 3 1 x c.length (c.map (Value.int .i64)) ∧ Hx.IsCores G.n (fun v => up (G.nb v)) c := by
  have H := Lib.hid h
  clear h
  go_enter Try.func82, Try.ntmps82
  go_wp2_with (first
    | (go_at_call 93; refine (N_any w H.out).mono ?_; rintro e w1 ⟨rfl, rfl⟩))
  refine Code.wp_mono (Q := fun e a w' => e = .normal ∧ ∃ lb ab, (Below w.heap.size w w' ∧ lb ≠ ab ∧ lb < w'.heap.size ∧ ab < w'.heap.size ∧ w'.ownsRow w.heap.size 3 1 (.slice (some ⟨lb, 0, none⟩) G.n G.n) G.n (List.replicate G.n (.int .i64 0)) ∧ w'.ownsRow w.heap.size 3 1 (.slice (some ⟨ab, 0, none⟩) G.n G.n) G.n (List.replicate G.n (.int .i64 0))) ∧
    a = ⟨List.toArray (g :: undef :: Value.slice none 0 0 :: Value.int .i64 (G.n : Int) :: Value.slice (some ⟨lb, 0, none⟩) G.n G.n :: Value.slice (some ⟨ab, 0, none⟩) G.n G.n :: undef :: undef :: undef :: undef :: undef :: undef :: undef :: undef :: undef :: undef :: undef :: g :: Value.int .i64 (G.n : Int) :: Value.int .i64 (G.n : Int) :: Value.slice (some ⟨lb, 0, none⟩) G.n G.n :: Value.int .i64 (G.n : Int) :: Value.slice (some ⟨ab, 0, none⟩) G.n G.n :: undef :: undef :: undef :: undef :: undef :: undef :: undef :: undef :: undef :: undef :: undef :: undef :: undef :: undef :: undef :: undef :: undef :: undef :: undef :: undef :: undef :: undef :: undef :: undef :: undef :: undef :: undef :: undef :: undef :: undef :: undef :: undef :: undef :: undef :: undef :: undef :: undef :: undef :: undef :: undef :: undef :: undef :: undef :: undef :: undef :: undef :: undef :: undef :: undef :: undef :: undef :: undef :: undef :: undef :: undef :: undef :: undef :: undef :: undef :: undef :: undef :: undef :: undef :: undef :: undef :: undef :: undef :: undef :: undef :: undef :: undef :: undef :: undef :: undef :: undef :: undef :: undef :: undef :: undef :: undef :: undef :: undef :: undef :: undef :: undef :: undef :: undef :: undef :: undef :: undef :: undef :: undef :: undef :: undef :: undef :: undef :: undef :: undef :: undef :: undef :: undef :: undef :: undef :: undef :: undef :: undef :: undef :: undef :: undef :: undef :: undef :: undef :: undef :: undef :: undef :: undef :: undef :: undef :: undef :: undef :: undef :: undef :: undef :: undef :: undef :: undef :: undef :: undef :: undef :: undef :: undef :: undef :: undef :: undef :: []), []⟩) ?_ ?_
  rotate_left
  · refine wp_region_any (by kernel_rfl) ?_
    change wpAny _ _ _ _ _ _ _ (World.drew _)
    refine wpAny_take (i := 0) (v := ?_) rfl (by kernel_rfl) (by kernel_rfl) (by kernel_rfl) (fun _ _ _ h => by cases h.1) (Or.inl ⟨by rfl, ?_⟩) ?_
    rotate_left
    · intro w'
      go_simp
      with_reducible rfl
    rotate_left
    go_frame
    refine wpAny_take (i := 2) (v := ?_) rfl (by kernel_rfl) (by kernel_rfl) (by kernel_rfl) (fun _ _ _ h => by cases h.1) (Or.inl ⟨by rfl, ?_⟩) ?_
    rotate_left
    · intro w'
      go_simp
      with_reducible rfl
    rotate_left
    go_frame
    refine wpAny_ready (rs := [1, 3]) (by kernel_rfl) (by simp) (AllReady.cons rfl (fun K hK => ?_) (AllReady.cons rfl (fun K hK => ?_) AllReady.nil))
    · refine (step_make (W := w.drew) w.drew.heap.size rfl (.tmp 19) (.tmp 19) 25 3 _ 8 rfl Try.underlying25 infoInt rfl (by decide) _ _ G.n rfl rfl rfl rfl (by omega) (Nat.le_refl _) (fun W1 o1 g1 => hK _ _ ?_))
      clear hK K
      go_frame
      refine wpAny_take (i := 4) (v := ?_) rfl (by kernel_rfl) (by kernel_rfl) (by kernel_rfl) (fun _ _ _ h => by cases h.1) (Or.inl ⟨by rfl, ?_⟩) ?_
      rotate_left
      · intro w'
        go_simp
        with_reducible rfl
      rotate_left
      go_frame
      refine wpAny_ready (rs := [3]) (by kernel_rfl) (by simp) (AllReady.cons rfl (fun K hK => ?_) AllReady.nil)
      refine (step_make (W := W1) W1.heap.size rfl (.tmp 21) (.tmp 21) 25 3 _ 8 rfl Try.underlying25 infoInt rfl (by decide) _ _ G.n rfl rfl rfl rfl (by omega) (Nat.le_refl _) (fun W2 o2 g2 => hK _ _ ?_))
      clear hK K
      go_frame
      refine wpAny_take (i := 5) (v := ?_) rfl (by kernel_rfl) (by kernel_rfl) (by kernel_rfl) (fun _ _ _ h => by cases h.1) (Or.inl ⟨by rfl, ?_⟩) ?_
      rotate_left
      · intro w'
        go_simp
        with_reducible rfl
      rotate_left
      go_frame
      have z1 : w.heap.size < W1.heap.size := (o1.lt _ rfl).2
      have z2 : W1.heap.size < W2.heap.size := (o2.lt _ rfl).2
      have z4 : w.drew.heap.size = w.heap.size := rfl
      refine wpAny_done (by kernel_rfl) ⟨rfl, _, _, ⟨((Below.refl w.heap.size w).drew.grown g1 (Nat.le_refl _) (by simp)).grown g2 (Nat.le_of_lt z1) (by simp), by omega, by omega, by omega, ?_, ?_⟩, rfl⟩ _
      · exact ownsRow_mono (World.ownsRow.kept o1 g2 (.inr (by simp [Value.ownBlock]))) (Nat.le_refl _)
      · exact ownsRow_mono o2 (Nat.le_of_lt z1)
    · refine (step_make (W := w.drew) w.drew.heap.size rfl (.tmp 21) (.tmp 21) 25 3 _ 8 rfl Try.underlying25 infoInt rfl (by decide) _ _ G.n rfl rfl rfl rfl (by omega) (Nat.le_refl _) (fun W1 o1 g1 => hK _ _ ?_))
      clear hK K
      go_frame
      refine wpAny_ready (rs := [1]) (by kernel_rfl) (by simp) (AllReady.cons rfl (fun K hK => ?_) AllReady.nil)
      refine (step_make (W := W1) W1.heap.size rfl (.tmp 19) (.tmp 19) 25 3 _ 8 rfl Try.underlying25 infoInt rfl (by decide) _ _ G.n rfl rfl rfl rfl (by omega) (Nat.le_refl _) (fun W2 o2 g2 => hK _ _ ?_))
      clear hK K
      go_frame
      refine wpAny_take (i := 4) (v := ?_) rfl (by kernel_rfl) (by kernel_rfl) (by kernel_rfl) (fun _ _ _ h => by cases h.1) (Or.inl ⟨by rfl, ?_⟩) ?_
      rotate_left
      · intro w'
        go_simp
        with_reducible rfl
      rotate_left
      go_frame
      refine wpAny_take (i := 5) (v := ?_) rfl (by kernel_rfl) (by kernel_rfl) (by kernel_rfl) (fun _ _ _ h => by cases h.1) (Or.inl ⟨by rfl, ?_⟩) ?_
      rotate_left
      · intro w'
        go_simp
        with_reducible rfl
      rotate_left
      go_frame
      have z1 : w.heap.size < W1.heap.size := (o1.lt _ rfl).2
      have z2 : W1.heap.size < W2.heap.size := (o2.lt _ rfl).2
      have z4 : w.drew.heap.size = w.heap.size := rfl
      refine wpAny_done (by kernel_rfl) ⟨rfl, _, _, ⟨((Below.refl w.heap.size w).drew.grown g1 (Nat.le_refl _) (by simp)).grown g2 (Nat.le_of_lt z1) (by simp), by omega, by omega, by omega, ?_, ?_⟩, rfl⟩ _
      · exact ownsRow_mono o2 (Nat.le_of_lt z1)
      · exact ownsRow_mono (World.ownsRow.kept o1 g2 (.inr (by simp [Value.ownBlock]))) (Nat.le_refl _)
  rintro e a W ⟨rfl, lb, ab, ⟨hb, hne, hlb, hab, hL, hA⟩, rfl⟩
  have B1 : Hid (Below w.heap.size w W) := hb
  have L1 : Hid (OI W w.heap.size (.slice (some ⟨lb, 0, none⟩) G.n G.n) (List.replicate G.n 0)) := by
    show World.ownsRow W w.heap.size 3 1 (.slice (some ⟨lb, 0, none⟩) G.n G.n) (List.replicate G.n (0 : Int)).length ((List.replicate G.n (0 : Int)).map (Value.int .i64))
    simpa using hL
  have A1 : Hid (OI W w.heap.size (.slice (some ⟨ab, 0, none⟩) G.n G.n) (List.replicate G.n 0)) := by
    show World.ownsRow W w.heap.size 3 1 (.slice (some ⟨ab, 0, none⟩) G.n G.n) (List.replicate G.n (0 : Int)).length ((List.replicate G.n (0 : Int)).map (Value.int .i64))
    simpa using hA
  clear hb hL hA
  go_wp2
  go_loopg [24, 6] G.n (fun d s mo wx => ∃ v : Nat, d + v = G.n ∧ s = .int .i64 (v : Int) ∧ ∃ (left : List Int) (m : Int), mo = .int .i64 m ∧ Hid (Below w.heap.size w wx ∧ OI wx w.heap.size (.slice (some ⟨lb, 0, none⟩) G.n G.n) left ∧ OI wx w.heap.size (.slice (some ⟨ab, 0, none⟩) G.n G.n) (List.replicate G.n 0) ∧ lb < wx.heap.size ∧ ab < wx.heap.size) ∧ Hid (left.length = G.n ∧ 0 ≤ m ∧ m ≤ G.n ∧ ∀ u, u < v → left.getD u 0 = ((G.nb u).length : Int) ∧ left.getD u 0 ≤ m))
  case atStart => exact ⟨0, rfl, rfl, _, _, rfl, ⟨B1.out, L1.out, A1.out, hlb, hab⟩, by simp, Int.le_refl _, by omega, fun u hu => absurd hu (Nat.not_lt_zero u)⟩
  case round =>
    obtain ⟨v, hv, rfl, left, m, rfl, HM, HP⟩ := hrel
    have HV := Lib.hid hv
    clear hv
    by_cases hlt : v < G.n
    · have HG : Hid (PG wr lo hi g G) := H.out.at_ HM.out.1
      obtain ⟨g0, x0, hA0, _, _, c0, f0, _⟩ := HM.out.2.1.get v (by rw [HP.out.1]; exact hlt)
      injection hA0 with hA0
      injection hA0 with hA0
      subst hA0
      go_wp2_with (go_at_call 46; refine (Degree_any wr HG.out v).mono ?_; rintro e w1 ⟨rfl, rfl⟩)
      go_roundg (G.n - (v + 1))
      case measure => have := HV.out; omega
      case rel =>
        have hl := HP.out.1
        have hd : ((G.nb v).length : Int) ≤ G.n := by have := G.nb_length_le v; omega
        refine ⟨v + 1, by have := HV.out; omega, by go_num, left.set v ((G.nb v).length : Int), max m ((G.nb v).length : Int), rfl, ⟨HM.out.1.setCell (by have := HM.out.2.1.lt rfl; exact this.1) _, HM.out.2.1.set v (by omega) _, HM.out.2.2.1.kept (grown_set _ _ _) (.inr (by simp only [Value.ownBlock]; intro e; injection e with e; exact hne e.symm)), by rw [size_setCell]; exact HM.out.2.2.2.1, by rw [size_setCell]; exact HM.out.2.2.2.2⟩, by simpa using hl, by have := HP.out.2.1; omega, by have := HP.out.2.2.1; omega, fun u hu => ?_⟩
        rw [Hx.getD_set]
        by_cases e : v = u
        · subst e
          rw [if_pos ⟨rfl, by omega⟩]
          exact ⟨rfl, by omega⟩
        · rw [if_neg (fun q => e q.1)]
          have := HP.out.2.2.2 u (by omega)
          exact ⟨this.1, by omega⟩
    · have hvn : v = G.n := by have := HV.out; omega
      subst hvn
      have hm0 := HP.out.2.1
      have hm1 := HP.out.2.2.1
      obtain ⟨M, hM⟩ : ∃ M : Nat, m = (M : Int) := ⟨m.toNat, by omega⟩
      subst hM
      have hMn : M ≤ 4096 := by omega
      obtain ⟨N1, hN1, hN2⟩ : ∃ N1, M + 1 ≤ N1 ∧ N1 ≤ M + 1 := ⟨_, Nat.le_refl _, Nat.le_refl _⟩
      obtain ⟨wa, hwa⟩ : ∃ W, W = wr := ⟨_, rfl⟩
      rw [← hwa] at HM ⊢
      clear hwa
      have hlb := HM.out.2.2.2.1
      have hab := HM.out.2.2.2.2
      have hws := HM.out.1.size
      go_wp2_with (at_make; refine mk_full (W := wa) wa.heap.size rfl (.tmp 41) (.tmp 41) 75 25 _ 24 rfl Try.underlying75 infoInts rfl (by decide) _ _ N1 rfl rfl (by omega) (by omega) (by omega) (Nat.le_refl _) ?_; intro w1 hown1 hgr1)
      have t1 : wa.heap.size + 1 ≤ w1.heap.size := (hown1.lt _ rfl).2
      obtain ⟨tb, htb⟩ : ∃ b, b = wa.heap.size := ⟨_, rfl⟩
      rw [← htb] at hown1 t1 hws hlb hab ⊢
      have B2 : Hid (Below w.heap.size w w1) := HM.out.1.grown hgr1 HM.out.1.size (by simp)
      have L2 : Hid (OI w1 w.heap.size (.slice (some ⟨lb, 0, none⟩) G.n G.n) left) := HM.out.2.1.kept hgr1 (.inr (by simp [Value.ownBlock]))
      have A2 : Hid (OI w1 w.heap.size (.slice (some ⟨ab, 0, none⟩) G.n G.n) (List.replicate G.n 0)) := HM.out.2.2.1.kept hgr1 (.inr (by simp [Value.ownBlock]))
      have R2 : Hid (OwnRows w1 (tb + 1) tb N1 (fun _ => [])) := rows_start (by omega) hown1
      clear hown1 hgr1 htb HM
      have hws1 : w.heap.size ≤ tb := hws
      obtain ⟨i0, hi, hz0, hz1, hz2⟩ := info_parts infoInt
      have HI : Hid (Try.prog.info? 3 = some i0 ∧ i0.zero = some (.int .i64 0) ∧ i0.size = 1 ∧ i0.bytes = 8) := ⟨hi, hz0, hz1, hz2⟩
      clear hi hz0 hz1 hz2
      have HPL : Hid (left.length = G.n ∧ ∀ u, u < G.n → left.getD u 0 = ((G.nb u).length : Int) ∧ left.getD u 0 ≤ M) := ⟨HP.out.1, HP.out.2.2.2⟩
      clear HP
      go_loopg [44] G.n (fun d s wx => ∃ v : Nat, d + v = G.n ∧ s = .int .i64 (v : Int) ∧ ∃ (T : Nat → List Int), Hid (Below w.heap.size w wx ∧ OI wx w.heap.size (.slice (some ⟨lb, 0, none⟩) G.n G.n) left ∧ OI wx w.heap.size (.slice (some ⟨ab, 0, none⟩) G.n G.n) (List.replicate G.n 0) ∧ tb + 1 ≤ wx.heap.size ∧ OwnRows wx (tb + 1) tb N1 T) ∧ Hid (Hx.entries T N1 = v ∧ (∀ u, u < v → (u : Int) ∈ T (left.getD u 0).toNat) ∧ (∀ j, ∀ x ∈ T j, 0 ≤ x ∧ x < G.n)))
      case atStart =>
        refine ⟨0, rfl, rfl, _, ⟨B2.out, L2.out, A2.out, t1, R2.out⟩, ?_, fun u hu => absurd hu (Nat.not_lt_zero u), fun j x hx => by cases hx⟩
        have : ∀ q, Hx.entries (fun _ => []) q = 0 := fun q => by induction q with
          | zero => rfl
          | succ q ih => unfold Hx.entries; rw [ih]; rfl
        exact this _
      case round =>
        obtain ⟨v, hv, rfl, T, HM, HP⟩ := hrel
        have HV := Lib.hid hv
        clear hv
        by_cases hlt : v < G.n
        · obtain ⟨g0, x0, hA0, _, hg0, c0, _, hx0⟩ := HM.out.2.1.get v (by rw [HPL.out.1]; exact hlt)
          injection hA0 with hA0
          injection hA0 with hA0
          subst hA0
          have hlv := HPL.out.2 v hlt
          have ex : left.getD v 0 = x0 := getD_of hx0.out
          obtain ⟨j, hj⟩ : ∃ j : Nat, x0 = (j : Int) := ⟨x0.toNat, by omega⟩
          subst hj
          have hjM : j < N1 := by omega
          have HEX := Lib.hid ex
          clear ex hlv hx0
          obtain ⟨vs, R3'⟩ := HM.out.2.2.2.2
          have R3 := Lib.hid R3'
          clear R3'
          have hbz := HM.out.2.2.2.1
          have hws := HM.out.1.size
          have hln : (T j).length ≤ 4096 := by have := Hx.entries_ge T hjM; have := HP.out.1; omega
          go_wp2
          obtain ⟨W5, hW5⟩ : ∃ W, W = wr := ⟨_, rfl⟩
          rw [← hW5] at HM R3 c0 hg0 hbz hws ⊢
          clear hW5
          obtain ⟨x1, x1x, x1o⟩ := R3.out.2.2.1 j hjM
          have x1b := x1o.lt
          have ql : some lb ≠ x1.ownBlock := fun e => by have := x1b _ e.symm; omega
          have qa : some ab ≠ x1.ownBlock := fun e => by have := x1b _ e.symm; omega
          have qt : some tb ≠ x1.ownBlock := fun e => by have := x1b _ e.symm; omega
          have t0 : W5.cell? ⟨tb, j, none⟩ = some x1 := by rw [cell_of R3.out.2.1 j]; simpa using x1x
          have f0 := free_of R3.out.2.1 j
          have wlt : tb < W5.heap.size := by omega
          have XO := Lib.hid x1o
          have XX := Lib.hid x1x
          have QL := Lib.hid ql
          have QA := Lib.hid qa
          have QT := Lib.hid qt
          clear x1o x1x x1b ql qt qa
          refine region_T (by kernel_rfl) (fun w' => w'.cell? ⟨lb, v, none⟩ = some (.int .i64 (j : Int)) ∧ w'.cell? ⟨tb, j, none⟩ = some x1) 16 ⟨c0, t0⟩ (fun HS => ?_)
          change anyT _ _ _ _ _ _ 17 _ _ _
          refine takeT (i := 0) (v := ?_) rfl rfl (by kernel_rfl) (fun _ _ _ h => h) rfl ?_ HS ?_
          rotate_left
          · intro w' hS'
            obtain ⟨s0, s1⟩ := hS'
            go_simp
            rfl
          rotate_left
          go_frame
          refine takeT (i := 1) (v := ?_) rfl rfl (by kernel_rfl) (fun _ _ _ h => h) rfl ?_ HS ?_
          rotate_left
          · intro w' hS'
            obtain ⟨s0, s1⟩ := hS'
            go_simp
            rfl
          rotate_left
          go_frame
          refine takeT (i := 2) (v := ?_) rfl rfl (by kernel_rfl) (fun _ _ _ h => h) rfl ?_ HS ?_
          rotate_left
          · intro w' hS'
            obtain ⟨s0, s1⟩ := hS'
            go_simp
            rfl
          rotate_left
          go_frame
          refine takeT (i := 3) (v := ?_) rfl rfl (by kernel_rfl) (fun _ _ _ h => h) rfl ?_ HS ?_
          rotate_left
          · intro w' hS'
            obtain ⟨s0, s1⟩ := hS'
            go_simp
            rfl
          rotate_left
          go_frame
          refine takeT (i := 4) (v := ?_) rfl rfl (by kernel_rfl) (fun _ _ _ h => h) rfl ?_ HS ?_
          rotate_left
          · intro w' hS'
            obtain ⟨s0, s1⟩ := hS'
            go_simp
            rfl
          rotate_left
          go_frame
          refine takeT (i := 5) (v := ?_) rfl rfl (by kernel_rfl) (fun _ _ _ h => h) rfl ?_ HS ?_
          rotate_left
          · intro w' hS'
            obtain ⟨s0, s1⟩ := hS'
            go_simp
            rfl
          rotate_left
          go_frame
          refine takeT (i := 6) (v := ?_) rfl rfl (by kernel_rfl) (fun _ _ _ h => h) rfl ?_ HS ?_
          rotate_left
          · intro w' hS'
            obtain ⟨s0, s1⟩ := hS'
            go_simp
            rfl
          rotate_left
          go_frame
          refine takeT (i := 7) (v := ?_) rfl rfl (by kernel_rfl) (fun _ _ _ h => h) rfl ?_ HS ?_
          rotate_left
          · intro w' hS'
            obtain ⟨s0, s1⟩ := hS'
            go_simp
            rfl
          rotate_left
          go_frame
          refine takeT (i := 8) (v := ?_) rfl rfl (by kernel_rfl) (fun _ _ _ h => h) rfl ?_ HS ?_
          rotate_left
          · intro w' hS'
            obtain ⟨s0, s1⟩ := hS'
            go_simp
            rfl
          rotate_left
          go_frame
          refine takeT (i := 9) (v := ?_) rfl rfl (by kernel_rfl) (fun _ _ _ h => h) rfl ?_ HS ?_
          rotate_left
          · intro w' hS'
            obtain ⟨s0, s1⟩ := hS'
            go_simp
            rfl
          rotate_left
          go_frame
          refine takeT (i := 10) (v := ?_) rfl rfl (by kernel_rfl) (fun _ _ _ h => h) rfl ?_ HS ?_
          rotate_left
          · intro w' hS'
            obtain ⟨s0, s1⟩ := hS'
            go_simp
            rfl
          rotate_left
          go_frame
          refine takeT (i := 11) (v := ?_) rfl rfl (by kernel_rfl) (fun _ _ _ h => h) rfl ?_ HS ?_
          rotate_left
          · intro w' hS'
            obtain ⟨s0, s1⟩ := hS'
            go_simp
            rfl
          rotate_left
          go_frame
          refine takeT (i := 12) (v := ?_) rfl rfl (by kernel_rfl) (fun _ _ _ h => h) rfl ?_ HS ?_
          rotate_left
          · intro w' hS'
            obtain ⟨s0, s1⟩ := hS'
            go_simp
            rfl
          rotate_left
          go_frame
          refine oneT (i := 13) rfl (by kernel_rfl) (fun K hK => ?_)
          go_simp
          refine hK.out _ _ (fun _ => ?_) ?_
          · exact ⟨(World.cell?_of_block (w := W5) (Below.heap_alloc W5 _ _ hg0)).trans c0, (World.cell?_of_block (w := W5) (Below.heap_alloc W5 _ _ wlt)).trans t0⟩
          clear hK K
          refine oneT (i := 14) rfl (by kernel_rfl) (fun K hK => ?_)
          refine step_append_lies _ (by rfl) (.tmp 58) (.tmp 60) 25 (by rfl) (tb + 1) 3 i0 (.int .i64 0) 1 8 Try.underlying25 HI.out.1 HI.out.2.1 HI.out.2.2.1 HI.out.2.2.2 rfl (by decide) x1 _ _ (by rfl) (XO.out.alloc _).drew ⟨W5.heap.size, 0, none⟩ 1 1 [.int .i64 (v : Int)] (by rfl) rfl (World.news_of_block (cs := #[.int .i64 (v : Int)]) (t := 3) (fr := (0, 0)) (heap_alloc_new W5 _)) (by simp [Value.oneCell']) (by decide) (by unfold maxLen; omega) (by omega) (by simp; omega) (W5.heap.size + 1) (by simp) ?_
          intro g0 cap0 V0 hown0 hgr0 hat0 hlt0
          have p0' := far_cell hgr0 c0 QL.out
          have t0' := far_cell hgr0 t0 QT.out
          have f0' := (far_frozen hgr0 (a := ⟨tb, j, none⟩) wlt QT.out).trans f0
          refine hK.out _ _ (fun _ => ⟨p0', t0'⟩) ?_
          clear hK K
          have HS0 : (fun w' : World => w'.cell? ⟨lb, v, none⟩ = some (.int .i64 (j : Int)) ∧ w'.cell? ⟨tb, j, none⟩ = some x1) V0 := ⟨p0', t0'⟩
          go_frame
          refine takeT (i := 15) (v := ?_) rfl rfl (by kernel_rfl) (fun _ _ _ h => h) rfl ?_ HS0 ?_
          rotate_left
          · intro w' hS'
            obtain ⟨s0, s1⟩ := hS'
            go_simp
            rfl
          rotate_left
          go_frame
          refine oneT (i := 16) rfl (by kernel_rfl) (fun K hK => ?_)
          go_simp
          refine hK.out _ _ (fun h => absurd rfl h) ?_
          clear hK K
          refine doneT (by kernel_rfl) ?_ 0
          have R7 := Lib.hid (R3.out.app (y := (v : Int)) hjM XX.out (by omega) (by omega) hgr0 hown0 hat0)
          have hvs : W5.heap.size ≤ V0.heap.size := by have := hgr0.size; simp at this; omega
          have fb : ∀ c, c < W5.heap.size → some c ≠ x1.ownBlock → c ≠ tb → (V0.setCell ⟨tb, j, none⟩ (.slice (some ⟨g0, 0, none⟩) ((T j).length + 1) cap0)).heap[c]? = W5.heap[c]? := fun c h1 h2 h3 => (Below.heap_setCell _ _ _ _ h3).trans (far_block hgr0 h1 h2)
          have B7 : Hid (Below w.heap.size w (V0.setCell ⟨tb, j, none⟩ (.slice (some ⟨g0, 0, none⟩) ((T j).length + 1) cap0))) := ((((HM.out.1.alloc HM.out.1.size _).drew).grown hgr0 (by simp; omega) (fun c hc => by have := (XO.out.lt c hc).1; omega))).setCell (by simp; omega) _
          have L7 : Hid (OI (V0.setCell ⟨tb, j, none⟩ (.slice (some ⟨g0, 0, none⟩) ((T j).length + 1) cap0)) w.heap.size (.slice (some ⟨lb, 0, none⟩) G.n G.n) left) := own_same HM.out.2.1 (fb lb hg0 QL.out (by omega))
          have A7 : Hid (OI (V0.setCell ⟨tb, j, none⟩ (.slice (some ⟨g0, 0, none⟩) ((T j).length + 1) cap0)) w.heap.size (.slice (some ⟨ab, 0, none⟩) G.n G.n) (List.replicate G.n 0)) := own_same HM.out.2.2.1 (fb ab (by omega) QA.out (by omega))
          have hsz7 : tb + 1 ≤ (V0.setCell ⟨tb, j, none⟩ (.slice (some ⟨g0, 0, none⟩) ((T j).length + 1) cap0)).heap.size := by rw [size_setCell]; omega
          obtain ⟨W7, hW7⟩ : ∃ W, W = V0.setCell ⟨tb, j, none⟩ (.slice (some ⟨g0, 0, none⟩) ((T j).length + 1) cap0) := ⟨_, rfl⟩
          rw [← hW7] at R7 B7 L7 A7 hsz7 ⊢
          clear hW7 fb c0 t0 f0 p0' t0' f0' hvs hgr0 hown0 hat0 hlt0 HS HS0
          go_wp2
          go_roundg (G.n - (v + 1))
          case measure => have := HV.out; omega
          case rel =>
            refine ⟨v + 1, by have := HV.out; omega, by go_num, Hx.updT T j (T j ++ [(v : Int)]), ⟨B7.out, L7.out, A7.out, hsz7, _, R7.out⟩, ?_, fun u hu => ?_, fun q x hx => ?_⟩
            · have h1 := Hx.entries_upd T j (T j ++ [(v : Int)]) N1
              rw [if_pos hjM, if_pos hjM, List.length_append, List.length_singleton] at h1
              have := HP.out.1
              omega
            · unfold Hx.updT
              by_cases e : u = v
              · subst e
                rw [HEX.out, Int.toNat_natCast, if_pos rfl]
                simp
              · have h1 := HP.out.2.1 u (by omega)
                split
                · rename_i e2
                  rw [e2] at h1
                  exact List.mem_append.2 (.inl h1)
                · exact h1
            · unfold Hx.updT at hx
              split at hx
              · rcases List.mem_append.1 hx with hx | hx
                · exact HP.out.2.2 _ x hx
                · rw [List.mem_singleton] at hx
                  omega
              · exact HP.out.2.2 q x hx
        · have hvn : v = G.n := by have := HV.out; omega
          subst hvn
          obtain ⟨wb, hwb⟩ : ∃ W, W = wr := ⟨_, rfl⟩
          rw [← hwb] at HM ⊢
          clear hwb
          have hwb1 := HM.out.1.size
          have htb1 := HM.out.2.2.2.1
          go_wp2_with (at_make; refine mk_full (W := wb) wb.heap.size rfl (.tmp 64) (.tmp 64) 24 4 _ 1 rfl Try.underlying24 infoBoolC rfl (by decide) _ _ G.n rfl rfl rfl rfl (by omega) (Nat.le_refl _) ?_; intro w2 hown2 hgr2)
          have hNb := nbs_G H.out.ok
          have HNB := Lib.hid hNb
          clear hNb
          obtain ⟨gb, hgb⟩ : ∃ b, b = wb.heap.size := ⟨_, rfl⟩
          rw [← hgb]
          obtain ⟨vs0, R0⟩ := HM.out.2.2.2.2
          have C0 : Hid (CM w w2 G.n N1 lb ab tb gb (fun _ => False) left (List.replicate G.n 0) (List.replicate G.n false) T vs0) := by
            rw [hgb]
            refine ⟨HM.out.1.grown hgr2 hwb1 (by simp), HM.out.2.1.kept hgr2 (.inr (by simp [Value.ownBlock])), HM.out.2.2.1.kept hgr2 (.inr (by simp [Value.ownBlock])), ?_, R0.kept hgr2 (by simp) (by simp), (hown2.lt _ rfl).2, fun j x hx b hb e => ?_, fun b hb => hb.elim⟩
            · show World.ownsRow w2 w.heap.size 4 1 (.slice (some ⟨wb.heap.size, 0, none⟩) G.n G.n) (List.replicate G.n false).length ((List.replicate G.n false).map Value.bool)
              have := ownsRow_mono hown2 hwb1
              simpa using this
            · rcases hb with rfl | hb
              · obtain ⟨x', hx', hxo⟩ := R0.2.2.1 j (by rw [← R0.1]; exact (List.getElem?_eq_some_iff.1 hx).1)
                rw [hx] at hx'
                cases hx'
                have := (hxo.lt _ e).2
                omega
              · exact hb
          have htg : tb < gb := by omega
          have hwt : w.heap.size ≤ tb := hws1
          have P0 : Hid (Hx.Peel G.n (fun v => up (G.nb v)) M left (List.replicate G.n 0) (List.replicate G.n false) T 0 0 []) := Hx.Peel.start HPL.out.1 (fun u hu => by rw [(HPL.out.2 u hu).1, up_length]) (fun u hu => (HPL.out.2 u hu).2) HP.out.2.1 HP.out.2.2
          have hs1 : left.sum ≤ G.n * M := by
            have := sum_le_getD left (m := (M : Int)) (fun u hu => (HPL.out.2 u (by rw [← HPL.out.1]; exact hu)).2)
            rw [HPL.out.1] at this
            exact this
          have hs0 : 0 ≤ left.sum := sum_ge_getD left (fun u hu => by have := (HPL.out.2 u (by rw [← HPL.out.1]; exact hu)).1; omega)
          have hs2 : (G.n : Int) * (M : Int) ≤ 4096 * 4096 := by
            have : G.n * M ≤ 4096 * 4096 := Nat.mul_le_mul (by omega) (by omega)
            omega
          have hs3 : left.sum + Hx.entries T N1 ≤ 20000000 := by have := HP.out.1; omega
          have HS := Lib.hid (And.intro hs0 hs3)
          clear hs0 hs1 hs2 hs3 hown2 hgr2 R0 HM HP HPL hgb hwb1
          go_loopg [12, 11] (3 * left.sum + Hx.entries T N1 + (M + 1)).toNat (fun d si sk wx => ∃ (i k : Int) (left ats : List Int) (gone : List Bool) (T : Nat → List Int) (vs : List Value), si = .int .i64 i ∧ sk = .int .i64 k ∧ Hid (CM w wx G.n N1 lb ab tb gb (fun _ => False) left ats gone T vs) ∧ Hid (Hx.Peel G.n (fun v => up (G.nb v)) M left ats gone T k i [] ∧ i ≤ M + 1 ∧ 0 ≤ left.sum ∧ left.sum + Hx.entries T N1 ≤ 20000000 ∧ (d : Int) = 3 * left.sum + Hx.entries T N1 + (M + 1 - i) ∧ k ≤ M))
          case atStart =>
            have := HS.out
            exact ⟨0, 0, _, _, _, _, _, rfl, rfl, C0.out, P0.out, by omega, this.1, this.2, by omega, by omega⟩
          case round =>
            clear P0 C0 HS
            obtain ⟨i, k, left, ats, gone, T, vs, rfl, rfl, HC, HP⟩ := hrel
            have hi0 := HP.out.1.i0
            have hk0 := HP.out.1.k0
            have hi1 := HP.out.2.1
            have hk1 := HP.out.2.2.2.2.2
            have hgz := HC.out.sz
            have hws := HC.out.bel.size
            by_cases hle : i ≤ M
            · obtain ⟨q, hq⟩ : ∃ q : Nat, i = (q : Int) := ⟨i.toNat, by omega⟩
              subst hq
              have hqN : q < N1 := by omega
              obtain ⟨x1, x1x, x1o⟩ := HC.out.t.2.2.1 q hqN
              obtain ⟨A1, c1, e1⟩ := own_slice' x1o
              subst e1
              have t0 : wr.cell? ⟨tb, q, none⟩ = some (.slice A1 (T q).length c1) := by rw [cell_of HC.out.t.2.1 q]; simpa using x1x
              have f0 := free_of HC.out.t.2.1 q
              have XX := Lib.hid x1x
              have XO := Lib.hid x1o
              clear x1x x1o
              rcases List.eq_nil_or_concat (T q) with hT | ⟨ys, y, hT⟩
              · have hl0 : (T q).length = 0 := by rw [hT]; rfl
                rw [hl0] at t0
                have HT := Lib.hid hT
                clear hT
                go_wp2
                go_roundg (3 * left.sum + Hx.entries T N1 + (M + 1 - ((q : Int) + 1))).toNat
                case measure => have := HP.out.2.2; omega
                case rel =>
                  have := HP.out.2.2
                  exact ⟨(q : Int) + 1, k, _, _, _, _, _, rfl, rfl, HC.out, HP.out.1.next (by rw [Int.toNat_natCast]; exact HT.out), by omega, this.1, this.2.1, by omega, hk1⟩
              · rw [List.concat_eq_append] at hT
                have hyr := HP.out.1.tr q y (by rw [hT]; simp)
                obtain ⟨v, hv⟩ : ∃ v : Nat, y = (v : Int) := ⟨y.toNat, by omega⟩
                subst hv
                have hvn : v < G.n := by omega
                clear hyr
                have hlen : (T q).length = ys.length + 1 := by rw [hT]; simp
                have ho : Own1 wr (tb + 1) 3 (Value.int .i64) (.slice A1 (ys.length + 1) c1) (ys ++ [(v : Int)]) := by
                  have := XO.out
                  rw [hT] at this
                  show World.ownsRow wr (tb + 1) 3 1 (.slice A1 (ys.length + 1) c1) _ _
                  simpa using this
                have hcap := ho.cap
                obtain ⟨bq, xq, hA, hbq, hbq2, cq, fq, hxq⟩ := ho.get ys.length (by simp)
                subst hA
                have : xq = (v : Int) := by have := hxq.out; simpa using this.symm
                subst this
                rw [hlen] at t0 XX
                rw [List.length_append, List.length_singleton] at hcap
                have hb63 : ys.length + 1 ≤ 20000000 := by have := Hx.entries_ge T hqN; have := HP.out.2.2.2.1; have := HP.out.2.2.1; omega
                obtain ⟨g1, z1, hz1, _, _, cg, fg, hzg⟩ := HC.out.g.get v (by rw [HP.out.1.gl]; exact hvn)
                injection hz1 with hz1
                injection hz1 with hz1
                subst hz1
                obtain ⟨g2, z2, hz2, _, _, cl, fl, hzl⟩ := HC.out.l.get v (by rw [HP.out.1.ll]; exact hvn)
                injection hz2 with hz2
                injection hz2 with hz2
                subst hz2
                have HT := Lib.hid hT
                have HO := Lib.hid ho
                have HLEN := Lib.hid hlen
                clear hT ho hlen hxq
                have ne1 : gb ≠ tb := by omega
                have ne2 : lb ≠ tb := by omega
                have eg : gone.getD v false = z1 := by have := hzg.out; rw [List.getD_eq_getElem?_getD, this]; rfl
                have el : left.getD v 0 = z2 := getD_of hzl.out
                have HEG := Lib.hid eg
                have HEL := Lib.hid el
                clear eg el hzg hzl
                have stale : (gone.getD v false = true ∨ left.getD v 0 ≠ (q : Int)) → Hx.Peel G.n (fun v => up (G.nb v)) M left ats gone (Hx.updT T q ys) k q [] := fun h => by
                  have h1 := HP.out.1.stale (ys := ys) (v := v) (by rw [Int.toNat_natCast]; exact HT.out) h
                  rw [Int.toNat_natCast] at h1
                  exact h1
                have hent : Hx.entries (Hx.updT T q ys) N1 + 1 = Hx.entries T N1 := by
                  have h1 := Hx.entries_upd T q ys N1
                  rw [if_pos hqN, if_pos hqN, HLEN.out] at h1
                  omega
                have HST := Lib.hid stale
                have HEN := Lib.hid hent
                have CP : Hid (CM w (wr.setCell ⟨tb, q, none⟩ (.slice (some ⟨bq, 0, none⟩) ys.length c1)) G.n N1 lb ab tb gb (fun _ => False) left ats gone (Hx.updT T q ys) (vs.set q (.slice (some ⟨bq, 0, none⟩) ys.length c1))) := HC.out.pop hlb hab htg hwt hqN XX.out HT.out
                clear stale hent
                cases z1 with
                | true =>
                  go_wp2
                  go_roundg (3 * left.sum + Hx.entries (Hx.updT T q ys) N1 + (M + 1 - (q : Int))).toNat
                  case measure => have := HP.out.2.2; have := HEN.out; omega
                  case rel =>
                    have := HP.out.2.2
                    have := HEN.out
                    exact ⟨(q : Int), k, _, _, _, _, _, rfl, rfl, CP.out, HST.out (.inl HEG.out), by omega, by omega, by omega, by omega, hk1⟩
                | false =>
                  by_cases hz : z2 = (q : Int)
                  · subst hz
                    obtain ⟨g3, z3, hz3, _, _, ca, fa, _⟩ := HC.out.a.get v (by rw [HP.out.1.al]; exact hvn)
                    injection hz3 with hz3
                    injection hz3 with hz3
                    subst hz3
                    have ne3 : ab ≠ tb := by omega
                    have ne4 : ab ≠ gb := by omega
                    have ne5 : lb ≠ gb := by omega
                    have PT := Lib.hid (HP.out.1.take (ys := ys) (v := v) HNB.out (by rw [Int.toNat_natCast]; exact HT.out) HEG.out HEL.out)
                    have CT := Lib.hid ((CP.out.setG hlb hab htg (u := v) (by rw [HP.out.1.gl]; exact hvn) true).setA hne hab htg (u := v) (by rw [HP.out.1.al]; exact hvn) (max k (q : Int)))
                    have hmx : max k (q : Int) ≤ M := by omega
                    go_wp2_with (go_at_call 38; refine (Neighbours_any _ (H.out.at_ CT.out.bel) v).mono ?_; rintro e w4 ⟨hb4, x4, rfl, ho4⟩; rw [nbz_nat] at ho4; obtain ⟨A4, c4, e4⟩ := own_slice' ho4; subst e4)
                    have F4 : ∀ b, (Value.slice A4 (G.nb v).length c4).ownBlock = some b → _ ≤ b ∧ b < w4.heap.size := fun b hb => ho4.lt b hb
                    have C4 := Lib.hid (CT.out.newF (below_grown' hb4) (fun b => (Value.slice A4 (G.nb v).length c4).ownBlock = some b) F4)
                    have N4 : Hid (Own1 w4 w.heap.size 3 (Value.int .i64) (.slice A4 (G.nb v).length c4) (up (G.nb v))) := by
                      have h1 := ownsRow_mono ho4 CT.out.bel.size
                      show World.ownsRow w4 w.heap.size 3 1 (.slice A4 (G.nb v).length c4) (up (G.nb v)).length ((up (G.nb v)).map (Value.int .i64))
                      rw [up_length]
                      exact h1
                    have FB : ∀ b, (Value.slice A4 (G.nb v).length c4).ownBlock = some b → gb < b := fun b hb => by
                      have := (F4 b hb).1
                      have := CT.out.sz
                      omega
                    have HFB := Lib.hid FB
                    obtain ⟨Cc, hCc⟩ : ∃ c : Int, c = (gk : Int) := ⟨_, rfl⟩
                    have HCC := Lib.hid hCc
                    have S4 : Hid (0 ≤ left.sum ∧ left.sum + Hx.entries (Hx.updT T q ys) N1 ≤ 20000000 ∧ 3 * left.sum + Hx.entries (Hx.updT T q ys) N1 + (M + 1 - (q : Int)) + 1 ≤ Cc) := by
                      have := HP.out.2.2
                      have := HEN.out
                      refine ⟨by omega, by omega, by omega⟩
                    obtain ⟨ats', hats'⟩ : ∃ z, z = ats.set v (max k (q : Int)) := ⟨_, rfl⟩
                    obtain ⟨gone', hgone'⟩ : ∃ z, z = gone.set v true := ⟨_, rfl⟩
                    obtain ⟨k', hk'⟩ : ∃ z, z = max k (q : Int) := ⟨_, rfl⟩
                    rw [← hats', ← hgone'] at C4
                    rw [← hats', ← hgone', ← hk'] at PT
                    rw [← hk']
                    rw [← hk'] at hmx
                    have P4 : Hid (Hx.Peel G.n (fun v => up (G.nb v)) M left ats' gone' (Hx.updT T q ys) k' q (up (G.nb v))) := by
                      have := PT.out
                      rw [Int.toNat_natCast] at this
                      exact this
                    have hnd := HNB.out.nodup v hvn
                    have HND := Lib.hid hnd
                    have hdl := G.nb_length_le v
                    clear hats' hgone' hk' hCc PT FB F4 hb4 ho4 CT CP HST HT HO t0 f0 cq fq cg fg cl fl ca fa hnd
                    go_loopg [118, 12] (G.nb v).length (fun d sj si wx => ∃ (j : Nat) (i : Int) (left : List Int) (T : Nat → List Int) (vs : List Value), d + j = (G.nb v).length ∧ sj = .int .i64 (j : Int) ∧ si = .int .i64 i ∧ Hid (CM w wx G.n N1 lb ab tb gb (fun b => (Value.slice A4 (G.nb v).length c4).ownBlock = some b) left ats' gone' T vs) ∧ Hid (Own1 wx w.heap.size 3 (Value.int .i64) (.slice A4 (G.nb v).length c4) (up (G.nb v))) ∧ Hid (Hx.Peel G.n (fun v => up (G.nb v)) M left ats' gone' T k' i ((up (G.nb v)).drop j) ∧ i ≤ M + 1 ∧ 0 ≤ left.sum ∧ left.sum + Hx.entries T N1 ≤ 20000000 ∧ 3 * left.sum + Hx.entries T N1 + (M + 1 - i) + 1 ≤ Cc))
                    case atStart =>
                      have := S4.out
                      exact ⟨0, _, _, _, _, rfl, rfl, rfl, C4.out, N4.out, P4.out, by omega, this.1, this.2.1, this.2.2⟩
                    case round =>
                      have HPO := HP
                      clear HC HP S4 C4 N4 P4 XX XO HEN HEG HEL HLEN
                      obtain ⟨j, i, left, T, vs, hj, rfl, rfl, HC, HN, HP⟩ := hrel
                      have HJ := Lib.hid hj
                      clear hj
                      have hgz := HC.out.sz
                      have hws := HC.out.bel.size
                      by_cases hlt : j < (G.nb v).length
                      · obtain ⟨g4, u0, hA4, _, hg4, c5, _, hu0⟩ := HN.out.get j (by rw [up_length]; exact hlt)
                        subst hA4
                        obtain ⟨u, hu⟩ : ∃ u : Nat, u0 = (u : Int) ∧ u < G.n := by
                          have hm := List.mem_of_getElem? hu0.out
                          have := HNB.out.rng v hvn u0 hm
                          exact ⟨u0.toNat, by omega, by omega⟩
                        obtain ⟨rfl, hun⟩ := hu
                        have hdr : (up (G.nb v)).drop j = (u : Int) :: (up (G.nb v)).drop (j + 1) := by
                          obtain ⟨h1, h2⟩ := List.getElem?_eq_some_iff.1 hu0.out
                          rw [List.drop_eq_getElem_cons h1, h2]
                        have HDR := Lib.hid hdr
                        have hnu := HND.out
                        have hnu' : ((u : Int) :: (up (G.nb v)).drop (j + 1)).Nodup := by rw [← hdr]; exact List.Pairwise.drop hnu
                        have HNU := Lib.hid hnu'
                        have hg4b : gb < g4 := HFB.out g4 rfl
                        obtain ⟨g1, z1, hz1, _, _, cg, fg, hzg⟩ := HC.out.g.get u (by rw [HP.out.1.gl]; exact hun)
                        injection hz1 with hz1
                        injection hz1 with hz1
                        subst hz1
                        obtain ⟨g2, z2, hz2, _, _, cl, fl, hzl⟩ := HC.out.l.get u (by rw [HP.out.1.ll]; exact hun)
                        injection hz2 with hz2
                        injection hz2 with hz2
                        subst hz2
                        have HEG : Hid (gone'.getD u false = z1) := by have := hzg.out; show gone'.getD u false = z1; rw [List.getD_eq_getElem?_getD, this]; rfl
                        have HEL : Hid (left.getD u 0 = z2) := getD_of hzl.out
                        have hi1 := HP.out.2.1
                        have hi0 := HP.out.1.i0
                        clear hu0 hdr hnu hnu' hzg hzl
                        cases z1 with
                        | true =>
                          go_wp2
                          go_roundg ((G.nb v).length - (j + 1))
                          case measure => have := HJ.out; omega
                          case rel =>
                            refine ⟨j + 1, i, left, T, vs, by have := HJ.out; omega, by go_num, rfl, HC.out, HN.out, ?_, HP.out.2⟩
                            have := HP.out.1
                            rw [HDR.out] at this
                            exact this.pass HEG.out
                        | false =>
                          have PD := HP.out.1
                          rw [HDR.out] at PD
                          have h1 := PD.one hun HEG.out
                          rw [HEL.out] at h1
                          have h2 := (PD.lr u hun).2
                          rw [HEL.out] at h2
                          obtain ⟨jj, hjj⟩ : ∃ jj : Nat, z2 = (jj : Int) + 1 := ⟨(z2 - 1).toNat, by omega⟩
                          subst hjj
                          have hjN : jj < N1 := by omega
                          have PDD := Lib.hid (PD.dec HNU.out hun HEG.out)
                          rw [HEL.out, show (jj : Int) + 1 - 1 = (jj : Int) by omega, Int.toNat_natCast] at PDD
                          have CL := Lib.hid (HC.out.setL hne hlb htg (u := u) (by rw [HP.out.1.ll]; exact hun) (jj : Int))
                          clear PD h1 h2
                          go_wp2
                          obtain ⟨W5, hW5⟩ : ∃ W, W = wr.setCell ⟨lb, u, none⟩ (.int .i64 (jj : Int)) := ⟨_, rfl⟩
                          have N5 : Hid (Own1 W5 w.heap.size 3 (Value.int .i64) (.slice (some ⟨g4, 0, none⟩) (G.nb v).length c4) (up (G.nb v))) := by
                            rw [hW5]
                            exact own_same' HN.out (fun b hb => by
                              injection hb with hb
                              have hb : g4 = b := hb
                              exact Below.heap_setCell _ _ _ _ (show b ≠ lb by omega))
                          rw [← hW5] at CL ⊢
                          have hg5 : g4 < W5.heap.size := by rw [hW5, size_setCell]; exact hg4
                          clear hW5 HC HN c5 cg fg cl fl
                          have hgz := CL.out.sz
                          have hws := CL.out.bel.size
                          obtain ⟨x1, x1x, x1o⟩ := CL.out.t.2.2.1 jj hjN
                          have x1b := x1o.lt
                          have hln : (T jj).length ≤ 20000000 := by have := Hx.entries_ge T hjN; have := HP.out.2.2.1; have := HP.out.2.2.2.1; omega
                          have ql : some lb ≠ x1.ownBlock := fun e => by have := x1b _ e.symm; omega
                          have qt : some tb ≠ x1.ownBlock := fun e => by have := x1b _ e.symm; omega
                          have t0 : W5.cell? ⟨tb, jj, none⟩ = some x1 := by rw [cell_of CL.out.t.2.1 jj]; simpa using x1x
                          have f0 := free_of CL.out.t.2.1 jj
                          obtain ⟨g2, z2, hz2, _, hlb5, c0, _, hz3⟩ := CL.out.l.get u (by rw [List.length_set, HP.out.1.ll]; exact hun)
                          injection hz2 with hz2
                          injection hz2 with hz2
                          subst hz2
                          have hz4 : z2 = (jj : Int) := by
                            have := hz3.out
                            rw [List.getElem?_set_self (by rw [HP.out.1.ll]; exact hun)] at this
                            injection this with this
                            exact this.symm
                          rw [hz4] at c0
                          have wlt : tb < W5.heap.size := by omega
                          have XO := Lib.hid x1o
                          have XX := Lib.hid x1x
                          have QL := Lib.hid ql
                          have QT := Lib.hid qt
                          clear x1o x1x x1b ql qt hz3 hz4
                          refine region_T (by kernel_rfl) (fun w' => w'.cell? ⟨lb, u, none⟩ = some (.int .i64 (jj : Int)) ∧ w'.cell? ⟨tb, jj, none⟩ = some x1) 16 ⟨c0, t0⟩ (fun HS => ?_)
                          change anyT _ _ _ _ _ _ 17 _ _ _
                          refine takeT (i := 0) (v := ?_) rfl rfl (by kernel_rfl) (fun _ _ _ h => h) rfl ?_ HS ?_
                          rotate_left
                          · intro w' hS'
                            obtain ⟨s0, s1⟩ := hS'
                            go_simp
                            rfl
                          rotate_left
                          go_frame
                          refine takeT (i := 1) (v := ?_) rfl rfl (by kernel_rfl) (fun _ _ _ h => h) rfl ?_ HS ?_
                          rotate_left
                          · intro w' hS'
                            obtain ⟨s0, s1⟩ := hS'
                            go_simp
                            rfl
                          rotate_left
                          go_frame
                          refine takeT (i := 2) (v := ?_) rfl rfl (by kernel_rfl) (fun _ _ _ h => h) rfl ?_ HS ?_
                          rotate_left
                          · intro w' hS'
                            obtain ⟨s0, s1⟩ := hS'
                            go_simp
                            rfl
                          rotate_left
                          go_frame
                          refine takeT (i := 3) (v := ?_) rfl rfl (by kernel_rfl) (fun _ _ _ h => h) rfl ?_ HS ?_
                          rotate_left
                          · intro w' hS'
                            obtain ⟨s0, s1⟩ := hS'
                            go_simp
                            rfl
                          rotate_left
                          go_frame
                          refine takeT (i := 4) (v := ?_) rfl rfl (by kernel_rfl) (fun _ _ _ h => h) rfl ?_ HS ?_
                          rotate_left
                          · intro w' hS'
                            obtain ⟨s0, s1⟩ := hS'
                            go_simp
                            rfl
                          rotate_left
                          go_frame
                          refine takeT (i := 5) (v := ?_) rfl rfl (by kernel_rfl) (fun _ _ _ h => h) rfl ?_ HS ?_
                          rotate_left
                          · intro w' hS'
                            obtain ⟨s0, s1⟩ := hS'
                            go_simp
                            rfl
                          rotate_left
                          go_frame
                          refine takeT (i := 6) (v := ?_) rfl rfl (by kernel_rfl) (fun _ _ _ h => h) rfl ?_ HS ?_
                          rotate_left
                          · intro w' hS'
                            obtain ⟨s0, s1⟩ := hS'
                            go_simp
                            rfl
                          rotate_left
                          go_frame
                          refine takeT (i := 7) (v := ?_) rfl rfl (by kernel_rfl) (fun _ _ _ h => h) rfl ?_ HS ?_
                          rotate_left
                          · intro w' hS'
                            obtain ⟨s0, s1⟩ := hS'
                            go_simp
                            rfl
                          rotate_left
                          go_frame
                          refine takeT (i := 8) (v := ?_) rfl rfl (by kernel_rfl) (fun _ _ _ h => h) rfl ?_ HS ?_
                          rotate_left
                          · intro w' hS'
                            obtain ⟨s0, s1⟩ := hS'
                            go_simp
                            rfl
                          rotate_left
                          go_frame
                          refine takeT (i := 9) (v := ?_) rfl rfl (by kernel_rfl) (fun _ _ _ h => h) rfl ?_ HS ?_
                          rotate_left
                          · intro w' hS'
                            obtain ⟨s0, s1⟩ := hS'
                            go_simp
                            rfl
                          rotate_left
                          go_frame
                          refine takeT (i := 10) (v := ?_) rfl rfl (by kernel_rfl) (fun _ _ _ h => h) rfl ?_ HS ?_
                          rotate_left
                          · intro w' hS'
                            obtain ⟨s0, s1⟩ := hS'
                            go_simp
                            rfl
                          rotate_left
                          go_frame
                          refine takeT (i := 11) (v := ?_) rfl rfl (by kernel_rfl) (fun _ _ _ h => h) rfl ?_ HS ?_
                          rotate_left
                          · intro w' hS'
                            obtain ⟨s0, s1⟩ := hS'
                            go_simp
                            rfl
                          rotate_left
                          go_frame
                          refine takeT (i := 12) (v := ?_) rfl rfl (by kernel_rfl) (fun _ _ _ h => h) rfl ?_ HS ?_
                          rotate_left
                          · intro w' hS'
                            obtain ⟨s0, s1⟩ := hS'
                            go_simp
                            rfl
                          rotate_left
                          go_frame
                          refine oneT (i := 13) rfl (by kernel_rfl) (fun K hK => ?_)
                          go_simp
                          refine hK.out _ _ (fun _ => ?_) ?_
                          · exact ⟨(World.cell?_of_block (w := W5) (Below.heap_alloc W5 _ _ hlb5)).trans c0, (World.cell?_of_block (w := W5) (Below.heap_alloc W5 _ _ wlt)).trans t0⟩
                          clear hK K
                          refine oneT (i := 14) rfl (by kernel_rfl) (fun K hK => ?_)
                          refine step_append_lies _ (by rfl) (.tmp 144) (.tmp 146) 25 (by rfl) (tb + 1) 3 i0 (.int .i64 0) 1 8 Try.underlying25 HI.out.1 HI.out.2.1 HI.out.2.2.1 HI.out.2.2.2 rfl (by decide) x1 _ _ (by rfl) (XO.out.alloc _).drew ⟨W5.heap.size, 0, none⟩ 1 1 [.int .i64 (u : Int)] (by rfl) rfl (World.news_of_block (cs := #[.int .i64 (u : Int)]) (t := 3) (fr := (0, 0)) (heap_alloc_new W5 _)) (by simp [Value.oneCell']) (by decide) (by unfold maxLen; omega) (by omega) (by simp; omega) (W5.heap.size + 1) (by simp) ?_
                          intro g0 cap0 V0 hown0 hgr0 hat0 hlt0
                          have p0' := far_cell hgr0 c0 QL.out
                          have t0' := far_cell hgr0 t0 QT.out
                          have f0' := (far_frozen hgr0 (a := ⟨tb, jj, none⟩) wlt QT.out).trans f0
                          refine hK.out _ _ (fun _ => ⟨p0', t0'⟩) ?_
                          clear hK K
                          have HS0 : (fun w' : World => w'.cell? ⟨lb, u, none⟩ = some (.int .i64 (jj : Int)) ∧ w'.cell? ⟨tb, jj, none⟩ = some x1) V0 := ⟨p0', t0'⟩
                          go_frame
                          refine takeT (i := 15) (v := ?_) rfl rfl (by kernel_rfl) (fun _ _ _ h => h) rfl ?_ HS0 ?_
                          rotate_left
                          · intro w' hS'
                            obtain ⟨s0, s1⟩ := hS'
                            go_simp
                            rfl
                          rotate_left
                          go_frame
                          refine oneT (i := 16) rfl (by kernel_rfl) (fun K hK => ?_)
                          go_simp
                          refine hK.out _ _ (fun h => absurd rfl h) ?_
                          clear hK K
                          refine doneT (by kernel_rfl) ?_ 0
                          have C7 := Lib.hid (CL.out.push hlb hab htg hwt hjN XX.out hgr0 hown0 hat0)
                          have N7 : Hid (Own1 (V0.setCell ⟨tb, jj, none⟩ (.slice (some ⟨g0, 0, none⟩) ((T jj).length + 1) cap0)) w.heap.size 3 (Value.int .i64) (.slice (some ⟨g4, 0, none⟩) (G.nb v).length c4) (up (G.nb v))) := own_same' N5.out (fun b hb => CL.out.push_block XX.out hgr0 hb (by
                              injection hb with hb
                              have hb : g4 = b := hb
                              omega))
                          obtain ⟨W7, hW7⟩ : ∃ W, W = V0.setCell ⟨tb, jj, none⟩ (.slice (some ⟨g0, 0, none⟩) ((T jj).length + 1) cap0) := ⟨_, rfl⟩
                          rw [← hW7] at C7 N7 ⊢
                          clear hW7 c0 t0 f0 p0' t0' f0' hgr0 hown0 hat0 hlt0 HS HS0 N5
                          obtain ⟨g2, z2, hz2, _, _, c0, _, hz3⟩ := C7.out.l.get u (by rw [List.length_set, HP.out.1.ll]; exact hun)
                          injection hz2 with hz2
                          injection hz2 with hz2
                          subst hz2
                          have hz4 : z2 = (jj : Int) := by
                            have := hz3.out
                            rw [List.getElem?_set_self (by rw [HP.out.1.ll]; exact hun)] at this
                            injection this with this
                            exact this.symm
                          rw [hz4] at c0
                          clear hz3 hz4
                          go_wp2
                          go_roundg ((G.nb v).length - (j + 1))
                          case measure => have := HJ.out; omega
                          case rel =>
                            have hsum := Hx.sum_setI left u (jj : Int) (by rw [HP.out.1.ll]; exact hun)
                            rw [HEL.out] at hsum
                            have hent := Hx.entries_upd T jj (T jj ++ [(u : Int)]) N1
                            rw [if_pos hjN, if_pos hjN, List.length_append, List.length_singleton] at hent
                            have hge := PDD.out.lr
                            have hs0 : 0 ≤ (left.set u (jj : Int)).sum := sum_ge_getD _ (fun x hx => (hge x (by rw [List.length_set, HP.out.1.ll] at hx; exact hx)).1)
                            have h3 := HP.out.2.2
                            have h4 := HP.out.1.ge u hun HEG.out
                            rw [HEL.out] at h4
                            exact ⟨j + 1, min i (jj : Int), _, _, _, by have := HJ.out; omega, by go_num, by first | rfl | go_num, C7.out, N7.out, PDD.out, by omega, hs0, by omega, by omega⟩
                      · have hjl : j = (G.nb v).length := by have := HJ.out; omega
                        subst hjl
                        have hdr : (up (G.nb v)).drop (G.nb v).length = [] := List.drop_eq_nil_of_le (by rw [up_length]; exact Nat.le_refl _)
                        rw [hdr] at HP
                        go_wp2
                        go_roundg (3 * left.sum + Hx.entries T N1 + (M + 1 - i)).toNat
                        case measure => have := HP.out.2.2; have := HP.out.2.1; have := HCC.out; omega
                        case rel =>
                          have h3 := HP.out.2.2
                          have h4 := HP.out.2.1
                          exact ⟨i, k', left, ats', gone', T, vs, rfl, rfl, HC.out.dropF, HP.out.1, by omega, by omega, by omega, by omega, hmx⟩
                  · have hzb : (z2 != (q : Int)) = true := by simpa using hz
                    go_wp2
                    go_roundg (3 * left.sum + Hx.entries (Hx.updT T q ys) N1 + (M + 1 - (q : Int))).toNat
                    case measure => have := HP.out.2.2; have := HEN.out; omega
                    case rel =>
                      have := HP.out.2.2
                      have := HEN.out
                      exact ⟨(q : Int), k, _, _, _, _, _, rfl, rfl, CP.out, HST.out (.inr (by rw [HEL.out]; exact hz)), by omega, by omega, by omega, by omega, hk1⟩
            · have hM1 : M < i := by omega
              go_wp2
              go_ret
              refine ⟨HC.out.bel, _, rfl, ats, ?_, HP.out.1.fin (by omega)⟩
              exact HC.out.a
end Go.Proofs.Ythbojpaghbbnnaa
namespace Go.Proofs.Ythbojpaghbbnnaa
open Go.RowKit
set_option linter.unusedVariables false
set_option linter.unusedSimpArgs false
/-- What peel.peel makes. -/
structure PB (w w' : World) (n lb gb bb : Nat) (g : Value) (left : List Int) : Prop where
  bel : Below w.heap.size w w'
  ne : lb ≠ gb
  nb1 : bb ≠ lb
  nb2 : bb ≠ gb
  bz : w.heap.size ≤ bb
  lz : w.heap.size ≤ lb
  gz : w.heap.size ≤ gb
  ol : Own1 w' w.heap.size 3 (Value.int .i64) (.slice (some ⟨lb, 0, none⟩) n n) left
  og : Own1 w' w.heap.size 4 Value.bool (.slice (some ⟨gb, 0, none⟩) n n) (List.replicate n false)
  b : w'.heap[bb]? = some (.cells #[g, .slice (some ⟨lb, 0, none⟩) n n, .slice (some ⟨gb, 0, none⟩) n n, .int .i64 (n : Int)] 145 (0, 0))
theorem leafL {w W1 W2 : World} {lo hi : Nat} {g : Value} {G : Gr} (h : PG w lo hi g G) (o1 : W1.ownsRow w.drew.heap.size 3 1 (.slice (some ⟨w.drew.heap.size, 0, none⟩) G.n G.n) G.n (List.replicate G.n (.int .i64 0))) (g1 : w.drew.grownBy W1 none)
    (o2 : W2.ownsRow W1.heap.size 4 1 (.slice (some ⟨W1.heap.size, 0, none⟩) G.n G.n) G.n (List.replicate G.n (.bool false))) (g2 : W1.grownBy W2 none) :
    PB w (W2.alloc (.cells #[g, .slice (some ⟨w.drew.heap.size, 0, none⟩) G.n G.n, .slice (some ⟨W1.heap.size, 0, none⟩) G.n G.n, .int .i64 (G.n : Int)] 145)) G.n w.drew.heap.size W1.heap.size W2.heap.size g (List.replicate G.n 0) := by
  have z1 : w.heap.size < W1.heap.size := (o1.lt _ rfl).2
  have z2 : W1.heap.size < W2.heap.size := (o2.lt _ rfl).2
  have z4 : w.drew.heap.size = w.heap.size := rfl
  refine ⟨(((Below.refl w.heap.size w).drew.grown g1 (Nat.le_refl _) (by simp)).grown g2 (Nat.le_of_lt z1) (by simp)).alloc (by omega) _, by omega, by omega, by omega, by omega, by omega, by omega, Own1.alloc ?_ _, Own1.alloc ?_ _, heap_alloc_new _ _⟩
  · show World.ownsRow W2 w.heap.size 3 1 _ (List.replicate G.n (0 : Int)).length ((List.replicate G.n (0 : Int)).map (Value.int .i64))
    have := World.ownsRow.kept o1 g2 (.inr (by simp [Value.ownBlock]))
    simpa using this
  · show World.ownsRow W2 w.heap.size 4 1 _ (List.replicate G.n false).length ((List.replicate G.n false).map Value.bool)
    have := ownsRow_mono o2 (Nat.le_of_lt z1)
    simpa using this
theorem leafG {w W1 W2 : World} {lo hi : Nat} {g : Value} {G : Gr} (h : PG w lo hi g G) (o1 : W1.ownsRow w.drew.heap.size 4 1 (.slice (some ⟨w.drew.heap.size, 0, none⟩) G.n G.n) G.n (List.replicate G.n (.bool false))) (g1 : w.drew.grownBy W1 none)
    (o2 : W2.ownsRow W1.heap.size 3 1 (.slice (some ⟨W1.heap.size, 0, none⟩) G.n G.n) G.n (List.replicate G.n (.int .i64 0))) (g2 : W1.grownBy W2 none) :
    PB w (W2.alloc (.cells #[g, .slice (some ⟨W1.heap.size, 0, none⟩) G.n G.n, .slice (some ⟨w.drew.heap.size, 0, none⟩) G.n G.n, .int .i64 (G.n : Int)] 145)) G.n W1.heap.size w.drew.heap.size W2.heap.size g (List.replicate G.n 0) := by
  have z1 : w.heap.size < W1.heap.size := (o1.lt _ rfl).2
  have z2 : W1.heap.size < W2.heap.size := (o2.lt _ rfl).2
  have z4 : w.drew.heap.size = w.heap.size := rfl
  refine ⟨(((Below.refl w.heap.size w).drew.grown g1 (Nat.le_refl _) (by simp)).grown g2 (Nat.le_of_lt z1) (by simp)).alloc (by omega) _, by omega, by omega, by omega, by omega, by omega, by omega, Own1.alloc ?_ _, Own1.alloc ?_ _, heap_alloc_new _ _⟩
  · show World.ownsRow W2 w.heap.size 3 1 _ (List.replicate G.n (0 : Int)).length ((List.replicate G.n (0 : Int)).map (Value.int .i64))
    have := ownsRow_mono o2 (Nat.le_of_lt z1)
    simpa using this
  · show World.ownsRow W2 w.heap.size 4 1 _ (List.replicate G.n false).length ((List.replicate G.n false).map Value.bool)
    have := World.ownsRow.kept o1 g2 (.inr (by simp [Value.ownBlock]))
    simpa using this
set_option maxRecDepth 100000 in
set_option maxHeartbeats 8000000 in
theorem peel_walk (w : World) {lo hi : Nat} {g : Value} {G : Gr} (h : PG w lo hi g G) (hn : G.n ≤ 4096) :
    Calls Try.prog 135 #[g] w fun e w' => ∃ lb gb bb, e = .returned (.pointer (some ⟨bb, 0, none⟩)) ∧ ∃ left, PB w w' G.n lb gb bb g left ∧ left.length = G.n ∧ ∀ u, u < G.n → left.getD u 0 = ((G.nb u).length : Int) := by
  have H := Lib.hid h
  obtain ⟨b0, m0, t0, c0, E0, rfl, hc0⟩ := h.open_
  clear h hc0
  go_enter Try.func135, Try.ntmps135
  go_wp2
  refine Code.wp_mono (Q := fun e a w' => e = .normal ∧ ∃ lb gb bb, PB w w' G.n lb gb bb (.pointer (some ⟨b0, 0, none⟩)) (List.replicate G.n 0) ∧ a = ⟨List.toArray (Value.pointer (some ⟨b0, 0, none⟩) :: undef :: Value.pointer none :: Value.pointer (some ⟨bb, 0, none⟩) :: undef :: Value.pointer (some ⟨b0, 0, none⟩) :: Value.pointer (some ⟨b0, 0, none⟩) :: Value.int .i64 (G.n : Int) :: Value.slice (some ⟨lb, 0, none⟩) G.n G.n :: Value.pointer (some ⟨b0, 0, none⟩) :: Value.int .i64 (G.n : Int) :: Value.slice (some ⟨gb, 0, none⟩) G.n G.n :: Value.pointer (some ⟨b0, 0, none⟩) :: Value.int .i64 (G.n : Int) :: Value.agg #[Value.pointer (some ⟨b0, 0, none⟩), Value.slice (some ⟨lb, 0, none⟩) G.n G.n, Value.slice (some ⟨gb, 0, none⟩) G.n G.n, Value.int .i64 (G.n : Int)] :: Value.pointer (some ⟨bb, 0, none⟩) :: undef :: undef :: undef :: undef :: undef :: undef :: undef :: undef :: undef :: undef :: undef :: undef :: undef :: undef :: undef :: undef :: undef :: undef :: undef :: []), []⟩) ?_ ?_
  rotate_left
  · refine wp_region_any (by kernel_rfl) ?_
    change wpAny _ _ _ _ _ _ _ (World.drew _)
    refine wpAny_take (i := 0) (v := ?_) rfl (by kernel_rfl) (by kernel_rfl) (by kernel_rfl) (fun _ _ _ h => by cases h.1) (Or.inl ⟨by rfl, ?_⟩) ?_
    rotate_left
    · intro w'
      go_simp
      with_reducible rfl
    rotate_left
    go_frame
    refine wpAny_take (i := 1) (v := ?_) rfl (by kernel_rfl) (by kernel_rfl) (by kernel_rfl) (fun _ _ _ h => by cases h.1) (Or.inl ⟨by rfl, ?_⟩) ?_
    rotate_left
    · intro w'
      go_simp
      with_reducible rfl
    rotate_left
    go_frame
    refine wpAny_take (i := 4) (v := ?_) rfl (by kernel_rfl) (by kernel_rfl) (by kernel_rfl) (fun _ _ _ h => by cases h.1) (Or.inl ⟨by rfl, ?_⟩) ?_
    rotate_left
    · intro w'
      go_simp
      with_reducible rfl
    rotate_left
    go_frame
    refine wpAny_take (i := 7) (v := ?_) rfl (by kernel_rfl) (by kernel_rfl) (by kernel_rfl) (fun _ _ _ h => by cases h.1) (Or.inl ⟨by rfl, ?_⟩) ?_
    rotate_left
    · intro w'
      go_simp
      with_reducible rfl
    rotate_left
    go_frame
    refine wpAny_ready (rs := [2]) (by kernel_rfl) (by simp) (AllReady.cons rfl (fun K hK => ?_) AllReady.nil)
    · go_simp
      go_wp2_with (go_at_call 93; refine (N_any w.drew (H.out.at_ ((Below.refl w.heap.size w).drew))).mono ?_; rintro e w9 ⟨rfl, rfl⟩)
      try (refine hK _ _ ?_; clear hK K)
      try go_frame
      refine wpAny_ready (rs := [3, 5]) (by kernel_rfl) (by simp) (AllReady.cons rfl (fun K hK => ?_) (AllReady.cons rfl (fun K hK => ?_) AllReady.nil))
      · refine (step_make (W := w.drew) w.drew.heap.size rfl (.tmp 7) (.tmp 7) 25 3 _ 8 rfl Try.underlying25 infoInt rfl (by decide) _ _ G.n rfl rfl rfl rfl (by omega) (Nat.le_refl _) (fun W1 o1 g1 => hK _ _ ?_))
        clear hK K
        go_frame
        refine wpAny_ready (rs := [5]) (by kernel_rfl) (by simp) (AllReady.cons rfl (fun K hK => ?_) AllReady.nil)
        · go_simp
          go_wp2_with (go_at_call 93; refine (N_any W1 (H.out.at_ ((Below.refl w.heap.size w).drew.grown g1 (Nat.le_refl _) (by simp)))).mono ?_; rintro e w9 ⟨rfl, rfl⟩)
          try (refine hK _ _ ?_; clear hK K)
          try go_frame
          refine wpAny_ready (rs := [6, 8]) (by kernel_rfl) (by simp) (AllReady.cons rfl (fun K hK => ?_) (AllReady.cons rfl (fun K hK => ?_) AllReady.nil))
          · refine (step_make (W := W1) W1.heap.size rfl (.tmp 10) (.tmp 10) 24 4 _ 1 rfl Try.underlying24 infoBoolC rfl (by decide) _ _ G.n rfl rfl rfl rfl (by omega) (Nat.le_refl _) (fun W2 o2 g2 => hK _ _ ?_))
            clear hK K
            go_frame
            refine wpAny_ready (rs := [8]) (by kernel_rfl) (by simp) (AllReady.cons rfl (fun K hK => ?_) AllReady.nil)
            · go_simp
              go_wp2_with (go_at_call 93; refine (N_any W2 (H.out.at_ (((Below.refl w.heap.size w).drew.grown g1 (Nat.le_refl _) (by simp)).grown g2 (Nat.le_of_lt (o1.lt _ rfl).2) (by simp)))).mono ?_; rintro e w9 ⟨rfl, rfl⟩)
              try (refine hK _ _ ?_; clear hK K)
              try go_frame
              refine wpAny_take (i := 9) (v := ?_) rfl (by kernel_rfl) (by kernel_rfl) (by kernel_rfl) (fun _ _ _ h => by cases h.1) (Or.inl ⟨by rfl, ?_⟩) ?_
              rotate_left
              · intro w'
                go_simp
                with_reducible rfl
              rotate_left
              go_frame
              refine wpAny_ready (rs := [10]) (by kernel_rfl) (by simp) (AllReady.cons rfl (fun K hK => ?_) AllReady.nil)
              go_simp
              refine hK _ _ ?_
              clear hK K
              try go_frame
              refine wpAny_take (i := 11) (v := ?_) rfl (by kernel_rfl) (by kernel_rfl) (by kernel_rfl) (fun _ _ _ h => by cases h.1) (Or.inl ⟨by rfl, ?_⟩) ?_
              rotate_left
              · intro w'
                go_simp
                with_reducible rfl
              rotate_left
              go_frame
              refine wpAny_done (by kernel_rfl) ⟨rfl, _, _, _, ?_, rfl⟩ _
              exact leafL H.out o1 g1 o2 g2
          · go_simp
            go_wp2_with (go_at_call 93; refine (N_any W1 (H.out.at_ ((Below.refl w.heap.size w).drew.grown g1 (Nat.le_refl _) (by simp)))).mono ?_; rintro e w9 ⟨rfl, rfl⟩)
            try (refine hK _ _ ?_; clear hK K)
            try go_frame
            refine wpAny_ready (rs := [6]) (by kernel_rfl) (by simp) (AllReady.cons rfl (fun K hK => ?_) AllReady.nil)
            · refine (step_make (W := W1) W1.heap.size rfl (.tmp 10) (.tmp 10) 24 4 _ 1 rfl Try.underlying24 infoBoolC rfl (by decide) _ _ G.n rfl rfl rfl rfl (by omega) (Nat.le_refl _) (fun W2 o2 g2 => hK _ _ ?_))
              clear hK K
              go_frame
              refine wpAny_take (i := 9) (v := ?_) rfl (by kernel_rfl) (by kernel_rfl) (by kernel_rfl) (fun _ _ _ h => by cases h.1) (Or.inl ⟨by rfl, ?_⟩) ?_
              rotate_left
              · intro w'
                go_simp
                with_reducible rfl
              rotate_left
              go_frame
              refine wpAny_ready (rs := [10]) (by kernel_rfl) (by simp) (AllReady.cons rfl (fun K hK => ?_) AllReady.nil)
              go_simp
              refine hK _ _ ?_
              clear hK K
              try go_frame
              refine wpAny_take (i := 11) (v := ?_) rfl (by kernel_rfl) (by kernel_rfl) (by kernel_rfl) (fun _ _ _ h => by cases h.1) (Or.inl ⟨by rfl, ?_⟩) ?_
              rotate_left
              · intro w'
                go_simp
                with_reducible rfl
              rotate_left
              go_frame
              refine wpAny_done (by kernel_rfl) ⟨rfl, _, _, _, ?_, rfl⟩ _
              exact leafL H.out o1 g1 o2 g2
      · go_simp
        go_wp2_with (go_at_call 93; refine (N_any w.drew (H.out.at_ ((Below.refl w.heap.size w).drew))).mono ?_; rintro e w9 ⟨rfl, rfl⟩)
        try (refine hK _ _ ?_; clear hK K)
        try go_frame
        refine wpAny_ready (rs := [3, 6, 8]) (by kernel_rfl) (by simp) (AllReady.cons rfl (fun K hK => ?_) (AllReady.cons rfl (fun K hK => ?_) (AllReady.cons rfl (fun K hK => ?_) AllReady.nil)))
        · refine (step_make (W := w.drew) w.drew.heap.size rfl (.tmp 7) (.tmp 7) 25 3 _ 8 rfl Try.underlying25 infoInt rfl (by decide) _ _ G.n rfl rfl rfl rfl (by omega) (Nat.le_refl _) (fun W1 o1 g1 => hK _ _ ?_))
          clear hK K
          go_frame
          refine wpAny_ready (rs := [6, 8]) (by kernel_rfl) (by simp) (AllReady.cons rfl (fun K hK => ?_) (AllReady.cons rfl (fun K hK => ?_) AllReady.nil))
          · refine (step_make (W := W1) W1.heap.size rfl (.tmp 10) (.tmp 10) 24 4 _ 1 rfl Try.underlying24 infoBoolC rfl (by decide) _ _ G.n rfl rfl rfl rfl (by omega) (Nat.le_refl _) (fun W2 o2 g2 => hK _ _ ?_))
            clear hK K
            go_frame
            refine wpAny_ready (rs := [8]) (by kernel_rfl) (by simp) (AllReady.cons rfl (fun K hK => ?_) AllReady.nil)
            · go_simp
              go_wp2_with (go_at_call 93; refine (N_any W2 (H.out.at_ (((Below.refl w.heap.size w).drew.grown g1 (Nat.le_refl _) (by simp)).grown g2 (Nat.le_of_lt (o1.lt _ rfl).2) (by simp)))).mono ?_; rintro e w9 ⟨rfl, rfl⟩)
              try (refine hK _ _ ?_; clear hK K)
              try go_frame
              refine wpAny_take (i := 9) (v := ?_) rfl (by kernel_rfl) (by kernel_rfl) (by kernel_rfl) (fun _ _ _ h => by cases h.1) (Or.inl ⟨by rfl, ?_⟩) ?_
              rotate_left
              · intro w'
                go_simp
                with_reducible rfl
              rotate_left
              go_frame
              refine wpAny_ready (rs := [10]) (by kernel_rfl) (by simp) (AllReady.cons rfl (fun K hK => ?_) AllReady.nil)
              go_simp
              refine hK _ _ ?_
              clear hK K
              try go_frame
              refine wpAny_take (i := 11) (v := ?_) rfl (by kernel_rfl) (by kernel_rfl) (by kernel_rfl) (fun _ _ _ h => by cases h.1) (Or.inl ⟨by rfl, ?_⟩) ?_
              rotate_left
              · intro w'
                go_simp
                with_reducible rfl
              rotate_left
              go_frame
              refine wpAny_done (by kernel_rfl) ⟨rfl, _, _, _, ?_, rfl⟩ _
              exact leafL H.out o1 g1 o2 g2
          · go_simp
            go_wp2_with (go_at_call 93; refine (N_any W1 (H.out.at_ ((Below.refl w.heap.size w).drew.grown g1 (Nat.le_refl _) (by simp)))).mono ?_; rintro e w9 ⟨rfl, rfl⟩)
            try (refine hK _ _ ?_; clear hK K)
            try go_frame
            refine wpAny_ready (rs := [6]) (by kernel_rfl) (by simp) (AllReady.cons rfl (fun K hK => ?_) AllReady.nil)
            · refine (step_make (W := W1) W1.heap.size rfl (.tmp 10) (.tmp 10) 24 4 _ 1 rfl Try.underlying24 infoBoolC rfl (by decide) _ _ G.n rfl rfl rfl rfl (by omega) (Nat.le_refl _) (fun W2 o2 g2 => hK _ _ ?_))
              clear hK K
              go_frame
              refine wpAny_take (i := 9) (v := ?_) rfl (by kernel_rfl) (by kernel_rfl) (by kernel_rfl) (fun _ _ _ h => by cases h.1) (Or.inl ⟨by rfl, ?_⟩) ?_
              rotate_left
              · intro w'
                go_simp
                with_reducible rfl
              rotate_left
              go_frame
              refine wpAny_ready (rs := [10]) (by kernel_rfl) (by simp) (AllReady.cons rfl (fun K hK => ?_) AllReady.nil)
              go_simp
              refine hK _ _ ?_
              clear hK K
              try go_frame
              refine wpAny_take (i := 11) (v := ?_) rfl (by kernel_rfl) (by kernel_rfl) (by kernel_rfl) (fun _ _ _ h => by cases h.1) (Or.inl ⟨by rfl, ?_⟩) ?_
              rotate_left
              · intro w'
                go_simp
                with_reducible rfl
              rotate_left
              go_frame
              refine wpAny_done (by kernel_rfl) ⟨rfl, _, _, _, ?_, rfl⟩ _
              exact leafL H.out o1 g1 o2 g2
        · refine (step_make (W := w.drew) w.drew.heap.size rfl (.tmp 10) (.tmp 10) 24 4 _ 1 rfl Try.underlying24 infoBoolC rfl (by decide) _ _ G.n rfl rfl rfl rfl (by omega) (Nat.le_refl _) (fun W1 o1 g1 => hK _ _ ?_))
          clear hK K
          go_frame
          refine wpAny_ready (rs := [3, 8]) (by kernel_rfl) (by simp) (AllReady.cons rfl (fun K hK => ?_) (AllReady.cons rfl (fun K hK => ?_) AllReady.nil))
          · refine (step_make (W := W1) W1.heap.size rfl (.tmp 7) (.tmp 7) 25 3 _ 8 rfl Try.underlying25 infoInt rfl (by decide) _ _ G.n rfl rfl rfl rfl (by omega) (Nat.le_refl _) (fun W2 o2 g2 => hK _ _ ?_))
            clear hK K
            go_frame
            refine wpAny_ready (rs := [8]) (by kernel_rfl) (by simp) (AllReady.cons rfl (fun K hK => ?_) AllReady.nil)
            · go_simp
              go_wp2_with (go_at_call 93; refine (N_any W2 (H.out.at_ (((Below.refl w.heap.size w).drew.grown g1 (Nat.le_refl _) (by simp)).grown g2 (Nat.le_of_lt (o1.lt _ rfl).2) (by simp)))).mono ?_; rintro e w9 ⟨rfl, rfl⟩)
              try (refine hK _ _ ?_; clear hK K)
              try go_frame
              refine wpAny_take (i := 9) (v := ?_) rfl (by kernel_rfl) (by kernel_rfl) (by kernel_rfl) (fun _ _ _ h => by cases h.1) (Or.inl ⟨by rfl, ?_⟩) ?_
              rotate_left
              · intro w'
                go_simp
                with_reducible rfl
              rotate_left
              go_frame
              refine wpAny_ready (rs := [10]) (by kernel_rfl) (by simp) (AllReady.cons rfl (fun K hK => ?_) AllReady.nil)
              go_simp
              refine hK _ _ ?_
              clear hK K
              try go_frame
              refine wpAny_take (i := 11) (v := ?_) rfl (by kernel_rfl) (by kernel_rfl) (by kernel_rfl) (fun _ _ _ h => by cases h.1) (Or.inl ⟨by rfl, ?_⟩) ?_
              rotate_left
              · intro w'
                go_simp
                with_reducible rfl
              rotate_left
              go_frame
              refine wpAny_done (by kernel_rfl) ⟨rfl, _, _, _, ?_, rfl⟩ _
              exact leafG H.out o1 g1 o2 g2
          · go_simp
            go_wp2_with (go_at_call 93; refine (N_any W1 (H.out.at_ ((Below.refl w.heap.size w).drew.grown g1 (Nat.le_refl _) (by simp)))).mono ?_; rintro e w9 ⟨rfl, rfl⟩)
            try (refine hK _ _ ?_; clear hK K)
            try go_frame
            refine wpAny_ready (rs := [3]) (by kernel_rfl) (by simp) (AllReady.cons rfl (fun K hK => ?_) AllReady.nil)
            · refine (step_make (W := W1) W1.heap.size rfl (.tmp 7) (.tmp 7) 25 3 _ 8 rfl Try.underlying25 infoInt rfl (by decide) _ _ G.n rfl rfl rfl rfl (by omega) (Nat.le_refl _) (fun W2 o2 g2 => hK _ _ ?_))
              clear hK K
              go_frame
              refine wpAny_take (i := 9) (v := ?_) rfl (by kernel_rfl) (by kernel_rfl) (by kernel_rfl) (fun _ _ _ h => by cases h.1) (Or.inl ⟨by rfl, ?_⟩) ?_
              rotate_left
              · intro w'
                go_simp
                with_reducible rfl
              rotate_left
              go_frame
              refine wpAny_ready (rs := [10]) (by kernel_rfl) (by simp) (AllReady.cons rfl (fun K hK => ?_) AllReady.nil)
              go_simp
              refine hK _ _ ?_
              clear hK K
              try go_frame
              refine wpAny_take (i := 11) (v := ?_) rfl (by kernel_rfl) (by kernel_rfl) (by kernel_rfl) (fun _ _ _ h => by cases h.1) (Or.inl ⟨by rfl, ?_⟩) ?_
              rotate_left
              · intro w'
                go_simp
                with_reducible rfl
              rotate_left
              go_frame
              refine wpAny_done (by kernel_rfl) ⟨rfl, _, _, _, ?_, rfl⟩ _
              exact leafG H.out o1 g1 o2 g2
        · go_simp
          go_wp2_with (go_at_call 93; refine (N_any w.drew (H.out.at_ ((Below.refl w.heap.size w).drew))).mono ?_; rintro e w9 ⟨rfl, rfl⟩)
          try (refine hK _ _ ?_; clear hK K)
          try go_frame
          refine wpAny_ready (rs := [3, 6]) (by kernel_rfl) (by simp) (AllReady.cons rfl (fun K hK => ?_) (AllReady.cons rfl (fun K hK => ?_) AllReady.nil))
          · refine (step_make (W := w.drew) w.drew.heap.size rfl (.tmp 7) (.tmp 7) 25 3 _ 8 rfl Try.underlying25 infoInt rfl (by decide) _ _ G.n rfl rfl rfl rfl (by omega) (Nat.le_refl _) (fun W1 o1 g1 => hK _ _ ?_))
            clear hK K
            go_frame
            refine wpAny_ready (rs := [6]) (by kernel_rfl) (by simp) (AllReady.cons rfl (fun K hK => ?_) AllReady.nil)
            · refine (step_make (W := W1) W1.heap.size rfl (.tmp 10) (.tmp 10) 24 4 _ 1 rfl Try.underlying24 infoBoolC rfl (by decide) _ _ G.n rfl rfl rfl rfl (by omega) (Nat.le_refl _) (fun W2 o2 g2 => hK _ _ ?_))
              clear hK K
              go_frame
              refine wpAny_take (i := 9) (v := ?_) rfl (by kernel_rfl) (by kernel_rfl) (by kernel_rfl) (fun _ _ _ h => by cases h.1) (Or.inl ⟨by rfl, ?_⟩) ?_
              rotate_left
              · intro w'
                go_simp
                with_reducible rfl
              rotate_left
              go_frame
              refine wpAny_ready (rs := [10]) (by kernel_rfl) (by simp) (AllReady.cons rfl (fun K hK => ?_) AllReady.nil)
              go_simp
              refine hK _ _ ?_
              clear hK K
              try go_frame
              refine wpAny_take (i := 11) (v := ?_) rfl (by kernel_rfl) (by kernel_rfl) (by kernel_rfl) (fun _ _ _ h => by cases h.1) (Or.inl ⟨by rfl, ?_⟩) ?_
              rotate_left
              · intro w'
                go_simp
                with_reducible rfl
              rotate_left
              go_frame
              refine wpAny_done (by kernel_rfl) ⟨rfl, _, _, _, ?_, rfl⟩ _
              exact leafL H.out o1 g1 o2 g2
          · refine (step_make (W := w.drew) w.drew.heap.size rfl (.tmp 10) (.tmp 10) 24 4 _ 1 rfl Try.underlying24 infoBoolC rfl (by decide) _ _ G.n rfl rfl rfl rfl (by omega) (Nat.le_refl _) (fun W1 o1 g1 => hK _ _ ?_))
            clear hK K
            go_frame
            refine wpAny_ready (rs := [3]) (by kernel_rfl) (by simp) (AllReady.cons rfl (fun K hK => ?_) AllReady.nil)
            · refine (step_make (W := W1) W1.heap.size rfl (.tmp 7) (.tmp 7) 25 3 _ 8 rfl Try.underlying25 infoInt rfl (by decide) _ _ G.n rfl rfl rfl rfl (by omega) (Nat.le_refl _) (fun W2 o2 g2 => hK _ _ ?_))
              clear hK K
              go_frame
              refine wpAny_take (i := 9) (v := ?_) rfl (by kernel_rfl) (by kernel_rfl) (by kernel_rfl) (fun _ _ _ h => by cases h.1) (Or.inl ⟨by rfl, ?_⟩) ?_
              rotate_left
              · intro w'
                go_simp
                with_reducible rfl
              rotate_left
              go_frame
              refine wpAny_ready (rs := [10]) (by kernel_rfl) (by simp) (AllReady.cons rfl (fun K hK => ?_) AllReady.nil)
              go_simp
              refine hK _ _ ?_
              clear hK K
              try go_frame
              refine wpAny_take (i := 11) (v := ?_) rfl (by kernel_rfl) (by kernel_rfl) (by kernel_rfl) (fun _ _ _ h => by cases h.1) (Or.inl ⟨by rfl, ?_⟩) ?_
              rotate_left
              · intro w'
                go_simp
                with_reducible rfl
              rotate_left
              go_frame
              refine wpAny_done (by kernel_rfl) ⟨rfl, _, _, _, ?_, rfl⟩ _
              exact leafG H.out o1 g1 o2 g2
  rintro e a W ⟨rfl, lb, gb, bb, HB, rfl⟩
  have HB' := Lib.hid HB
  have hne := HB.ne
  have hn1 := HB.nb1
  have hn2 := HB.nb2
  have k1 := cell_of HB.b 1
  clear HB
  go_wp2
  go_loopg [21] G.n (fun d s wx => ∃ v : Nat, d + v = G.n ∧ s = .int .i64 (v : Int) ∧ ∃ left : List Int, Hid (PB w wx G.n lb gb bb (.pointer (some ⟨b0, 0, none⟩)) left) ∧ Hid (left.length = G.n ∧ ∀ u, u < v → left.getD u 0 = ((G.nb u).length : Int)))
  case atStart => exact ⟨0, rfl, rfl, _, HB'.out, by simp, fun u hu => absurd hu (Nat.not_lt_zero u)⟩
  case round =>
    clear k1 HB'
    obtain ⟨v, hv, rfl, left, HB, HP⟩ := hrel
    have HV := Lib.hid hv
    clear hv
    have k1 := cell_of HB.out.b 1
    by_cases hlt : v < G.n
    · have HG : Hid (PG wr lo hi (.pointer (some ⟨b0, 0, none⟩)) G) := H.out.at_ HB.out.bel
      obtain ⟨g0, x0, hA0, _, _, c0, f0, _⟩ := HB.out.ol.get v (by rw [HP.out.1]; exact hlt)
      injection hA0 with hA0
      injection hA0 with hA0
      subst hA0
      have k1 : wr.cell? ⟨bb, 1, none⟩ = some (.slice (some ⟨lb, 0, none⟩) G.n G.n) := cell_of HB.out.b 1
      have HGD : Hid (PG wr.drew lo hi (.pointer (some ⟨b0, 0, none⟩)) G) := H.out.at_ HB.out.bel.drew
      go_wp2
      refine region_T (by kernel_rfl) (fun w' => w'.cell? ⟨bb, 1, none⟩ = some (.slice (some ⟨lb, 0, none⟩) G.n G.n)) 9 k1 (fun HS => ?_)
      change anyT _ _ _ _ _ _ 10 _ _ _
      refine takeT (i := 0) (v := ?_) rfl rfl (by kernel_rfl) (fun _ _ _ h => h) rfl ?_ HS ?_
      rotate_left
      · intro w' hS'
        go_simp
        rfl
      rotate_left
      go_frame
      refine takeT (i := 1) (v := ?_) rfl rfl (by kernel_rfl) (fun _ _ _ h => h) rfl ?_ HS ?_
      rotate_left
      · intro w' hS'
        go_simp
        rfl
      rotate_left
      go_frame
      refine takeT (i := 2) (v := ?_) rfl rfl (by kernel_rfl) (fun _ _ _ h => h) rfl ?_ HS ?_
      rotate_left
      · intro w' hS'
        go_simp
        rfl
      rotate_left
      go_frame
      refine takeT (i := 3) (v := ?_) rfl rfl (by kernel_rfl) (fun _ _ _ h => h) rfl ?_ HS ?_
      rotate_left
      · intro w' hS'
        go_simp
        rfl
      rotate_left
      go_frame
      refine takeT (i := 4) (v := ?_) rfl rfl (by kernel_rfl) (fun _ _ _ h => h) rfl ?_ HS ?_
      rotate_left
      · intro w' hS'
        go_simp
        rfl
      rotate_left
      go_frame
      refine takeT (i := 5) (v := ?_) rfl rfl (by kernel_rfl) (fun _ _ _ h => h) rfl ?_ HS ?_
      rotate_left
      · intro w' hS'
        go_simp
        rfl
      rotate_left
      go_frame
      refine takeT (i := 6) (v := ?_) rfl rfl (by kernel_rfl) (fun _ _ _ h => h) rfl ?_ HS ?_
      rotate_left
      · intro w' hS'
        go_simp
        rfl
      rotate_left
      go_frame
      refine oneT (i := 7) rfl (by kernel_rfl) (fun K hK => ?_)
      go_simp
      go_wp2_with (go_at_call 46; refine (Degree_any wr.drew HGD.out v).mono ?_; rintro e w1 ⟨rfl, rfl⟩)
      try (refine hK.out _ _ (fun _ => k1) ?_; clear hK K)
      try go_frame
      refine takeT (i := 8) (v := ?_) rfl rfl (by kernel_rfl) (fun _ _ _ h => h) rfl ?_ HS ?_
      rotate_left
      · intro w' hS'
        go_simp
        rfl
      rotate_left
      go_frame
      refine oneT (i := 9) rfl (by kernel_rfl) (fun K hK => ?_)
      go_simp
      refine hK.out _ _ (fun h => absurd rfl h) ?_
      clear hK K
      refine doneT (by kernel_rfl) ?_ 0
      go_wp2
      go_roundg (G.n - (v + 1))
      case measure => have := HV.out; omega
      case rel =>
        have hl := HP.out.1
        have hh := HB.out
        have q1 : Own1 (wr.setCell ⟨lb, v, none⟩ (.int .i64 ((G.nb v).length : Int))) w.heap.size 3 (Value.int .i64) (.slice (some ⟨lb, 0, none⟩) G.n G.n) (left.set v ((G.nb v).length : Int)) := hh.ol.set v (by omega) _
        have q2 : Own1 (wr.setCell ⟨lb, v, none⟩ (.int .i64 ((G.nb v).length : Int))) w.heap.size 4 Value.bool (.slice (some ⟨gb, 0, none⟩) G.n G.n) (List.replicate G.n false) := hh.og.kept (grown_set _ _ _) (.inr (fun e => by have e' : some gb = some lb := e; injection e' with e'; exact hne e'.symm))
        have q3 : (wr.setCell ⟨lb, v, none⟩ (.int .i64 ((G.nb v).length : Int))).heap[bb]? = wr.heap[bb]? := Below.heap_setCell _ _ _ _ (show bb ≠ lb from hn1)
        refine ⟨v + 1, by have := HV.out; omega, by go_num, left.set v ((G.nb v).length : Int), ⟨(hh.bel.setCell (show w.heap.size ≤ lb from hh.lz) _).drew, hh.ne, hh.nb1, hh.nb2, hh.bz, hh.lz, hh.gz, q1, q2, q3.trans hh.b⟩, by simpa using hl, fun u hu => ?_⟩
        rw [Hx.getD_set]
        by_cases e : v = u
        · subst e
          rw [if_pos ⟨rfl, by omega⟩]
        · rw [if_neg (fun q => e q.1)]
          exact HP.out.2 u (by omega)
    · have hvn : v = G.n := by have := HV.out; omega
      subst hvn
      go_wp2
      go_ret
      exact ⟨lb, gb, bb, rfl, left, HB.out, HP.out.1, HP.out.2⟩
end Go.Proofs.Ythbojpaghbbnnaa
namespace Go.Proofs.Ythbojpaghbbnnaa.Z
open Go Go.RowKit
set_option linter.unusedVariables false
set_option linter.unusedSimpArgs false
/-- Their degrees. -/
def degs (G : Gr) : List Int := (List.range G.n).map (fun v => ((G.nb v).length : Int))
namespace peelP
abbrev Fs : List Fd := [.v (.obj 0), .r 3 I64 false, .r 4 .bool false, .v I64]
abbrev ps : List PM := [.val (.obj 0)]
abbrev rs : List PM := [.nbx 145 Fs]
noncomputable def pre (g : Option Gr) : Bool := g.isSome && decide ((gr g).n ≤ 4096)
noncomputable def fn (g : Option Gr) : Ds (rs.map PM.ty) := (some (g, degs (gr g), List.replicate (gr g).n false, ((gr g).n : Int), false), ())
noncomputable def sig : Sig := ⟨ps, rs, fun d => match d with
  | (g, _) => pre g, fun d => match d with
  | (g, _) => fn g, false⟩
theorem sound : Sound Try.prog rho 135 sig := by
  intro d hp w U0 U1 hd0 vs hu hu1 hfr hap ha
  obtain ⟨g, _⟩ := d
  have hp := (show (g.isSome && decide ((gr g).n ≤ 4096)) = true from hp)
  rw [Bool.and_eq_true] at hp
  match vs, ha with
  | [v0], ⟨h0, _⟩ =>
    obtain ⟨G, lo, hi, rfl, hG⟩ := pg_in (h0.tr (tr0 w)) hp.1
    refine (peel_walk w hG (of_decide_eq_true hp.2)).mono ?_
    rintro e w' ⟨lb, gb, bb, rfl, left, hB, hl, hd⟩
    have hld : left = degs G := Hx.list_ext_getD (by rw [hl]; simp [degs]) (fun i hi => by
      rw [hl] at hi
      rw [hd i hi]
      simp [degs, List.getD_eq_getElem?_getD, hi])
    have hU1 : ∀ b, U1 b → b < w.heap.size := fun b hb => (hu1 b hb).1
    refine ⟨[.pointer (some ⟨bb, 0, none⟩)], fun i => match i with | 0 => .pointer (some ⟨bb, 0, none⟩) | 1 => .slice (some ⟨lb, 0, none⟩) G.n G.n | 2 => .slice (some ⟨gb, 0, none⟩) G.n G.n | _ => nilV, rfl, Ag.of_below hB.bel _, fun i hi => absurd hi (Nat.not_lt_zero _), fun i hi => absurd hi (Nat.not_lt_zero _), ?_, trivial, ⟨rfl, ⟨?_, ?_⟩⟩, trivial⟩
    · intro i j hi hj hij b hb hb2
      have hi : i < 3 := hi
      have hj : j < 3 := hj
      have key : ∀ k, k < 3 → k = 0 ∨ k = 1 ∨ k = 2 := fun k hk => by omega
      have h1 := hB.ne
      have h2 := hB.nb1
      have h3 := hB.nb2
      rcases key i hi with rfl | rfl | rfl <;> rcases key j hj with rfl | rfl | rfl <;> simp [blk] at hb hb2 hij <;> omega
    · refine ⟨bb, [v0, .slice (some ⟨lb, 0, none⟩) G.n G.n, .slice (some ⟨gb, 0, none⟩) G.n G.n, .int .i64 (G.n : Int)], rfl, hB.bz, hB.b, rfl, fun q hq => ?_⟩
      have hq : q < 4 := hq
      rcases (show q = 0 ∨ q = 1 ∨ q = 2 ∨ q = 3 by omega) with rfl | rfl | rfl | rfl
      · refine ⟨v0, rfl, ?_, ?_⟩
        · obtain ⟨b, m, t, c, E, rfl, _⟩ := hG.open_
          rfl
        · refine IRd.tr h0 (Tr.of (V := fun _ => False) (Ag.of_below hB.bel _) (fun _ _ h => h.elim) (fun b hb h => ?_))
          rcases h with h | ⟨q, hq, hqb⟩
          · exact .inl (hfr rfl b h)
          · exfalso
            have hq : q < 3 := hq
            have h1 := hB.bz
            have h2 := hB.lz
            have h3 := hB.gz
            rcases (show q = 0 ∨ q = 1 ∨ q = 2 by omega) with rfl | rfl | rfl <;> simp [blk] at hqb <;> omega
      · exact ⟨_, rfl, rfl, rfl⟩
      · exact ⟨_, rfl, rfl, rfl⟩
      · exact ⟨_, rfl, rfl, int_out _⟩
    · intro q hq
      have hq : q < 2 := hq
      rcases (show q = 0 ∨ q = 1 by omega) with rfl | rfl
      · refine ⟨left.flatMap (fun x => [Value.int .i64 x]), ?_, ?_⟩
        · have := hB.ol
          rw [hld] at this ⊢
          rw [flat_one]
          show World.ownsRow w' w.heap.size 3 1 _ (degs G).length _
          exact this
        · rw [hld]
          exact flat_els (Q := ICs rho _ w' I64) (enc := fun x : Int => [Value.int .i64 x]) (fun x => rfl) (degs G)
      · refine ⟨(List.replicate G.n false).flatMap (fun x => [Value.bool x]), ?_, ?_⟩
        · rw [flat_one]
          exact hB.og
        · exact flat_els (Q := ICs rho _ w' .bool) (enc := fun x : Bool => [Value.bool x]) (fun x => rfl) (List.replicate G.n false)
theorem enters : Enters Try.prog 135 := enters_of (fn := Try.f135) (by kernel_rfl) (by kernel_rfl) (by kernel_rfl)
theorem okR : Enters Try.prog 135 ∧ Sound Try.prog rho 135 sig := ⟨enters, sound⟩
end peelP
end Go.Proofs.Ythbojpaghbbnnaa.Z
namespace Go.Proofs.Ythbojpaghbbnnaa.Z
open Go Go.RowKit
set_option linter.unusedVariables false
set_option linter.unusedSimpArgs false
abbrev nbsOf (G : Gr) : Nat → List Int := fun v => up (G.nb v)
open Classical in
/-- The cores of a graph, by what a core is. -/
noncomputable def coresOf (G : Gr) : List Int := if h : ∃ c, Hx.IsCores G.n (nbsOf G) c then Classical.choose h else []
theorem coresOf_is {G : Gr} {c : List Int} (h : Hx.IsCores G.n (nbsOf G) c) : coresOf G = c := by
  unfold coresOf
  rw [dif_pos ⟨c, h⟩]
  exact (Classical.choose_spec (⟨c, h⟩ : ∃ c, Hx.IsCores G.n (nbsOf G) c)).uniq h
namespace Cores
abbrev ps : List PM := [.val (.obj 0)]
abbrev rs : List PM := [.own 3 I64]
noncomputable def pre (g : Option Gr) : Bool := g.isSome && decide ((gr g).n ≤ 4096)
noncomputable def fn (g : Option Gr) : (List Int) × Unit := (coresOf (gr g), ())
noncomputable def sig : Sig := ⟨ps, rs, fun d => match d with
  | (g, _) => pre g, fun d => match d with
  | (g, _) => fn g, true⟩
theorem sound : Sound Try.prog rho 82 sig := sound1o (fun x : Int => [Value.int .i64 x]) (fun _ _ _ => rfl) (fun (g : Option Gr) hp w U v hU h0 => by
  have hp := (show (g.isSome && decide ((gr g).n ≤ 4096)) = true from hp)
  rw [Bool.and_eq_true] at hp
  obtain ⟨G, lo, hi, rfl, hG⟩ := pg_in h0 hp.1
  refine (cores_walk w hG (of_decide_eq_true hp.2)).mono ?_
  rintro e w' ⟨hb, u, c, rfl, hu, hc⟩
  refine ⟨hb, u, rfl, ?_⟩
  have e1 : (fn (some G)).1 = c := coresOf_is hc
  rw [e1, flat_one]
  exact hu)
theorem enters : Enters Try.prog 82 := enters_of (fn := Try.f82) (by kernel_rfl) (by kernel_rfl) (by kernel_rfl)
theorem okR : Enters Try.prog 82 ∧ Sound Try.prog rho 82 sig := ⟨enters, sound⟩
end Cores
end Go.Proofs.Ythbojpaghbbnnaa.Z
