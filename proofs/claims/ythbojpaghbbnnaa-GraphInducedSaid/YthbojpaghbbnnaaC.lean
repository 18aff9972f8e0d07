/- Going through a map of edges: which ones are still to come. Laws at the operations; no condition. -/
import Derived.Test.YthbojpaghbbnnaaB
namespace Go.Proofs.Ythbojpaghbbnnaa
open Go.RowKit Go.WideMaps Go.Maps Go.MapKept
open Go.ChangeMaps (setBlock)
set_option linter.unusedVariables false
set_option linter.unusedSimpArgs false

/-- L without p. -/
def less (L : List (Int × Int)) (p : Int × Int) : List (Int × Int) := L.filter (· ≠ p)
theorem mem_less {L : List (Int × Int)} {p q : Int × Int} : q ∈ less L p ↔ q ∈ L ∧ q ≠ p := by simp [less]
theorem less_lt {L : List (Int × Int)} {p : Int × Int} (h : p ∈ L) : (less L p).length < L.length := by
  unfold less
  have := List.length_filter_lt_length_iff_exists (p := fun q => decide (q ≠ p)) (l := L)
  exact this.2 ⟨p, h, by simp⟩
/-- The iterator in block r goes through the map in block m; L is still to come. -/
def Rng (w : World) (m r : Nat) (L : List (Int × Int)) : Prop :=
  ∃ es clock seen, w.heap[m]? = some (.map es clock) ∧ Stamped es clock ∧ w.heap[r]? = some (.mapIter (some m) clock seen clock) ∧ (leftOf es seen).toList.map (fun x => (x.key, x.val)) = L.map pv
theorem Rng.frame {w w' : World} {m r : Nat} {L : List (Int × Int)} (h : Rng w m r L) (h1 : w'.heap[m]? = w.heap[m]?) (h2 : w'.heap[r]? = w.heap[r]?) : Rng w' m r L := by
  obtain ⟨es, clock, seen, a, b, c, d⟩ := h
  exact ⟨es, clock, seen, h1.trans a, b, h2.trans c, d⟩
theorem Rng.lt {w : World} {m r : Nat} {L : List (Int × Int)} (h : Rng w m r L) : m < w.heap.size ∧ r < w.heap.size := by
  obtain ⟨es, clock, seen, a, b, c, d⟩ := h
  exact ⟨(Array.getElem?_eq_some_iff.1 a).1, (Array.getElem?_eq_some_iff.1 c).1⟩
theorem sb_same {w : World} {b : Nat} {o : Obj} (h : w.heap[b]? = some o) (o' : Obj) : (setBlock w b o').heap[b]? = some o' := by
  have hlt := (Array.getElem?_eq_some_iff.1 h).1
  simp [setBlock, hlt]
theorem sb_other (w : World) (b : Nat) (o : Obj) {i : Nat} (hi : i ≠ b) : (setBlock w b o).heap[i]? = w.heap[i]? := by
  simp [setBlock, Array.getElem?_setIfInBounds, Ne.symm hi]
theorem filter_map_eq {α : Type} (f : α → Value × Value) (c : α → Bool) (p : Int × Int) : ∀ (zs : List α) (L : List (Int × Int)), zs.map f = L.map pv → (∀ x ∈ zs, c x = true ↔ f x ≠ pv p) → (zs.filter c).map f = (L.filter (· ≠ p)).map pv
  | [], [], _, _ => rfl
  | [], _ :: _, h, _ => by simp at h
  | _ :: _, [], h, _ => by simp at h
  | x :: zs, q :: L, h, hc => by
    simp only [List.map_cons, List.cons.injEq] at h
    have ih := filter_map_eq f c p zs L h.2 (fun y hy => hc y (by simp [hy]))
    have hx := hc x (by simp)
    by_cases e : q = p
    · have : c x = false := by
        rw [← Bool.not_eq_true]
        intro hh
        exact hx.1 hh (by rw [h.1, e])
      rw [List.filter_cons, List.filter_cons, if_neg (by simp [this]), if_neg (by simp [e])]
      exact ih
    · have : c x = true := hx.2 (fun hh => e (pv_inj (by rw [← h.1, hh])))
      rw [List.filter_cons, List.filter_cons, if_pos this, if_pos (by simpa using e), List.map_cons, List.map_cons, h.1, ih]
theorem Rng.begin {w : World} {m : Nat} {E : List (Int × Int)} (h : EMap w m E) : ∃ w', (Instr.range 117 (.map (some m))).run Try.prog w = .ok (.pointer (some ⟨w.heap.size, 0, none⟩)) w' ∧ Rng w' m w.heap.size E ∧ w.grownBy w' none ∧ w'.heap.size = w.heap.size + 1 := by
  obtain ⟨es, clock, hb, h2, h3, h4⟩ := h
  have hlt := (Array.getElem?_eq_some_iff.1 hb).1
  refine ⟨w.alloc (.mapIter (some m) clock #[] clock), ?_, ⟨es, clock, #[], ?_, h2, ?_, ?_⟩, World.grownBy_alloc w _ none, by simp⟩
  · simp only [Instr.range, Sem.run_bind, run_underlying Try.underlying117, Result.andThen, MapKept.run_getObj_map hb]
    rfl
  · rw [Below.heap_alloc w _ m hlt]; exact hb
  · exact (MapKept.heap_alloc w _).1
  · rw [← h3]
    unfold leftOf
    rw [Array.toList_filter, List.filter_eq_self.2 (fun x _ => by simp)]
theorem Rng.next {w : World} {m r : Nat} {L : List (Int × Int)} (h : Rng w m r L) (ty : TypeId) :
    (L = [] ∧ (Instr.next (.pointer (some ⟨r, 0, none⟩)) false ty).run Try.prog w = .ok (.tuple #[.bool false]) w) ∨
    ∃ p ∈ L, ∃ w', (Instr.next (.pointer (some ⟨r, 0, none⟩)) false ty).run Try.prog w = .ok (.tuple #[.bool true, kv p.1 p.2, .bool true]) w' ∧ Rng w' m r (less L p) ∧ w.grownBy w' (some r) ∧ w'.heap.size = w.heap.size ∧
      (Instr.entry (.pointer (some ⟨r, 0, none⟩))).run Try.prog w' = .ok (.tuple #[kv p.1 p.2, .bool true]) w' := by
  obtain ⟨es, clock, seen, hb, h2, hr, h3⟩ := h
  obtain ⟨s1, s2, s3⟩ := (stamped_iff es clock).1 h2
  rcases run_next_at (P := Try.prog) w ty r m clock clock seen es clock hr hb s1 (Nat.le_refl _) with ⟨h4, h5⟩ | ⟨e, he, w1, hw1, h5⟩
  · left
    refine ⟨?_, h5⟩
    have := congrArg List.length h3
    simp [h4] at this
    exact List.eq_nil_of_length_eq_zero this.symm
  · right
    have hm : (e.key, e.val) ∈ L.map pv := by rw [← h3]; exact List.mem_map_of_mem he
    obtain ⟨p, hp, ep⟩ := List.mem_map.1 hm
    have ek : e.key = kv p.1 p.2 := (congrArg Prod.fst ep).symm
    have ev : e.val = .bool true := (congrArg Prod.snd ep).symm
    have hes : e ∈ es.toList := by
      unfold leftOf at he
      simp at he
      simpa using he.1
    have hmr : m ≠ r := by
      intro e0
      rw [e0, hr] at hb
      cases hb
    have hr1 : w1.heap[r]? = some (.mapIter (some m) clock seen clock) := by rcases hw1 with rfl | rfl <;> exact hr
    have hb1 : w1.heap[m]? = some (.map es clock) := by rcases hw1 with rfl | rfl <;> exact hb
    have hsz : w1.heap.size = w.heap.size := by rcases hw1 with rfl | rfl <;> rfl
    refine ⟨p, hp, _, by rw [h5, ek, ev], ⟨es, clock, seen.push e.born, (sb_other w1 r _ hmr).trans hb1, h2, sb_same hr1 _, ?_⟩, ?_, by simp [setBlock, hsz], ?_⟩
    · unfold less
      have e1 : (leftOf es (seen.push e.born)).toList = (leftOf es seen).toList.filter (fun x => x.born != e.born) := by
        unfold leftOf
        rw [Array.toList_filter, Array.toList_filter, List.filter_filter]
        refine List.filter_congr (fun x _ => ?_)
        simp [Array.contains_push]
        rw [Bool.and_comm]
        rfl
      rw [e1]
      refine filter_map_eq (fun x : MapEntry => (x.key, x.val)) _ p _ _ h3 (fun x hx => ?_)
      have hxe : x ∈ es.toList := by
        unfold leftOf at hx
        simp at hx
        simpa using hx.1
      rw [ep]
      constructor
      · intro hh e0
        have hke : x.key = e.key := congrArg Prod.fst e0
        have hbe : x.born ≠ e.born := by simpa using hh
        by_cases hxx : x = e
        · exact hbe (by rw [hxx])
        · obtain ⟨i, hi, rfl⟩ := List.getElem_of_mem hxe
          obtain ⟨j, hj, rfl⟩ := List.getElem_of_mem hes
          rcases Nat.lt_trichotomy i j with h7 | h7 | h7
          · exact (List.pairwise_iff_getElem.1 s3 i j hi hj h7) hke
          · exact hxx (by subst h7; rfl)
          · exact (List.pairwise_iff_getElem.1 s3 j i hj hi h7) hke.symm
      · intro hne
        simp only [bne_iff_ne, ne_eq]
        intro e0
        apply hne
        obtain ⟨i, hi, rfl⟩ := List.getElem_of_mem hxe
        obtain ⟨j, hj, rfl⟩ := List.getElem_of_mem hes
        have : i = j := by
          have hn := List.nodup_iff_pairwise_ne.1 s2
          rcases Nat.lt_trichotomy i j with h7 | h7 | h7
          · exact absurd (by rw [List.getElem_map, List.getElem_map]; exact e0) (List.pairwise_iff_getElem.1 hn i j (by simpa using hi) (by simpa using hj) h7)
          · exact h7
          · exact absurd (by rw [List.getElem_map, List.getElem_map]; exact e0.symm) (List.pairwise_iff_getElem.1 hn j i (by simpa using hj) (by simpa using hi) h7)
        subst this
        rfl
    · have : w.grownBy w1 (some r) := by
        rcases hw1 with rfl | rfl
        · exact World.grownBy.refl _ _
        · exact ⟨rfl, rfl, rfl, Nat.le_refl _, fun _ _ _ => rfl⟩
      exact World.grownBy.trans this ⟨rfl, rfl, rfl, by simp [setBlock], fun i _ hi => sb_other w1 r _ (fun e => hi (by rw [e]))⟩
    · have := run_entry_at (P := Try.prog) (setBlock w1 r (.mapIter (some m) clock (seen.push e.born) clock)) r m clock seen es clock e (sb_same hr1 _) ((sb_other w1 r _ hmr).trans hb1) hes s2
      rw [ek, ev] at this
      exact this

section
variable {ops : Array Oper} {rest : List Oper} {o : Oper} {a : Act} {Q : Exit → Act → World → Prop}
theorem wpl_range {w : World} (hg : o.guard = none) (m : Operand) (hop : o.op = Op.range 117 m) (b r : Nat) (hr : w.heap.size = r) {E : List (Int × Int)} (hm : a.eval m = .map (some b)) (h : EMap w b E)
    (hK : ∀ w', Rng w' b r E → w.grownBy w' none → w'.heap.size = r + 1 → wpList Try.prog ops Q rest (a.put o.dst (.pointer (some ⟨r, 0, none⟩))) w') :
    wpList Try.prog ops Q (o :: rest) a w := by
  refine wpList_plain hg fun K' hK' => ?_
  obtain ⟨w', hrun, r1, r2, r3⟩ := Rng.begin h
  unfold Oper.wp
  simp [execOp, hop, hm, hrun, Result.andThen]
  rw [hr] at r1 r3 ⊢
  exact hK' _ _ (hK w' r1 r2 r3)
theorem wpl_next {w : World} (hg : o.guard = none) (it : Operand) (hop : o.op = Op.next it false) (b r : Nat) {L : List (Int × Int)} (hit : a.eval it = .pointer (some ⟨r, 0, none⟩)) (h : Rng w b r L)
    (hDone : L = [] → wpList Try.prog ops Q rest (a.put o.dst (.tuple #[.bool false])) w)
    (hMore : ∀ (p : Int × Int) (w' : World), p ∈ L → Rng w' b r (less L p) → w.grownBy w' (some r) → w'.heap.size = w.heap.size →
      (Instr.entry (.pointer (some ⟨r, 0, none⟩))).run Try.prog w' = .ok (.tuple #[kv p.1 p.2, .bool true]) w' → wpList Try.prog ops Q rest (a.put o.dst (.tuple #[.bool true, kv p.1 p.2, .bool true])) w') :
    wpList Try.prog ops Q (o :: rest) a w := by
  refine wpList_plain hg fun K' hK' => ?_
  unfold Oper.wp
  rcases h.next o.type with ⟨h0, hrun⟩ | ⟨p, hp, w', hrun, h1, h2, h3, h4⟩
  · simp [execOp, hop, hit, hrun, Result.andThen]
    exact hK' _ _ (hDone h0)
  · simp [execOp, hop, hit, hrun, Result.andThen]
    exact hK' _ _ (hMore p w' hp h1 h2 h3 h4)
theorem wpl_update {w : World} (hg : o.guard = none) (m x y : Operand) (hop : o.op = Op.mapUpdate 117 m x y) (b : Nat) {E : List (Int × Int)} (u v : Int) (hm : a.eval m = .map (some b)) (hx : a.eval x = kv u v) (hy : a.eval y = .bool true) (h : EMap w b E) (hu : Wf u) (hv : Wf v)
    (hK : ∀ w', EMap w' b (addE E (u, v)) → w.grownBy w' (some b) → w'.heap.size = w.heap.size → wpList Try.prog ops Q rest (a.put o.dst undef) w') :
    wpList Try.prog ops Q (o :: rest) a w := by
  refine wpList_plain hg fun K' hK' => ?_
  obtain ⟨w', hrun, r1, r2, r3⟩ := h.update hu hv
  unfold Oper.wp
  simp [execOp, hop, hm, hx, hy, hrun, Result.andThen]
  exact hK' _ _ (hK w' r1 r2 r3)
theorem wpl_delete {w : World} (hg : o.guard = none) (m x : Operand) (hop : o.op = Op.call { callee := Callee.builtin Builtin.delete, args := #[m, x], argTypes := #[117, 121] }) (b : Nat) {E : List (Int × Int)} (u v : Int) (hm : a.eval m = .map (some b)) (hx : a.eval x = kv u v) (h : EMap w b E) (hu : Wf u) (hv : Wf v)
    (hK : ∀ w', EMap w' b (E.filter (· ≠ (u, v))) → w.grownBy w' (some b) → w'.heap.size = w.heap.size → wpList Try.prog ops Q rest (a.put o.dst (.tuple #[])) w') :
    wpList Try.prog ops Q (o :: rest) a w := by
  refine wpList_plain hg fun K' hK' => ?_
  obtain ⟨w', hrun, r1, r2, r3⟩ := h.delete hu hv o.type
  unfold Oper.wp
  simp [execOp, hop, resolve, invoke, builtin, hm, hx, hrun, Result.andThen]
  exact hK' _ _ (hK w' r1 r2 r3)
end
theorem EMap.made (w : World) : EMap (w.alloc (.map #[] 0)) w.heap.size [] := ⟨#[], 0, (MapKept.heap_alloc w _).1, stamped_empty 0, rfl, by simp⟩
end Go.Proofs.Ythbojpaghbbnnaa
