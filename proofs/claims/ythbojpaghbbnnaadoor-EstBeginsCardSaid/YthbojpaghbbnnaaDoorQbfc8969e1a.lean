/- A part of a claim: what its statement needs. No condition. -/
import Derived.Test.YthbojpaghbbnnaaDoorQe62c70d899
import Derived.Laws.CopyRow
import Derived.Laws.Tables
import Derived.Great.BuildSlice
import Derived.Laws.MakeOwn
import Derived.Laws.OwnMore
import Derived.LoopN
namespace Go.Proofs.YthbojpaghbbnnaaDoor.Z
open Go Go.RowKit
set_option linter.unusedVariables false
set_option linter.unusedSimpArgs false
section
variable {P : Program} {tab : Tab} {ρ : Obs} {U : Nat → Prop} {w : World} {hd : Nat → Value} {R : Type} {n : Nat} {k : A → Option R} {r : R}
theorem load_run (ok : TabOk P tab) {id : TypeId} {i : TI} (h : tab.find id = some i) {b o : Nat} {ds : List Value} {y : i.t.den} (hd' : ICs ρ U w i.t ds y) {w' : World} (hc : ∀ j, j < i.t.size → w'.cell? ⟨b, o + j, none⟩ = ds[j]?) :
    (Instr.loadAt id (.pointer (some ⟨b, o, none⟩))).run P w' = .ok (pack i.t ds) w' := by
  have h1 := isAgg_run ok h w'
  have h2 := sizeOf_run ok h w'
  have hl := ICs.length hd'
  unfold Instr.loadAt loadVar
  simp only [Instr.sureAddr]
  rw [Sem.run_bind]
  simp only [Sem.run_pure, Result.andThen_ok]
  rw [Sem.run_bind, h1, Result.andThen_ok]
  cases hp : i.t.isPair with
  | true =>
    simp only [if_true]
    rw [Sem.run_bind, h2, Result.andThen_ok, Sem.run_bind, ← hl, run_loadCells_list w' ⟨b, o, none⟩ ds (fun j v hj => ?_)]
    · simp [pack_agg hp, go_sem]
    · have hj' : j < ds.length := (List.getElem?_eq_some_iff.1 hj).1
      have := hc j (by omega)
      rw [hj] at this
      rw [← this]
      congr 1
      unfold Addr.add
      split
      · rename_i e; subst e; rfl
      · rfl
  | false =>
    have h3 := T.size_one _ hp
    obtain ⟨v, rfl, _⟩ := ICs.one hp hd'
    have h4 := hc 0 (by omega)
    rw [pack_one hp]
    simp only [Nat.add_zero, List.getElem?_cons_zero] at h4
    simp [h4, go_sem]
/-- The cells of an own row's element. -/
theorem elem_cells {B : Nat} {e : TypeId} {u : T} {xs : List u.den} {v : Value} (h : RO ρ U w hd B (.row e u xs) v) {j : Nat} (hj : j < xs.length) : ∃ g cap cur ds, v = .slice (some ⟨g, 0, none⟩) xs.length cap ∧ w.heap[g]? = some (.cells cur e (0, 0)) ∧ cur.size = cap * u.size ∧ xs.length ≤ cap ∧ cap ≤ maxLen ∧
    ICs ρ U w u ds (xs.getD j u.dflt) ∧ (∀ q, q < u.size → cur[j * u.size + q]? = ds[q]?) ∧ Els (ICs ρ U w u) (cur.toList.take (xs.length * u.size)) xs := by
  obtain ⟨cs, ⟨h1, h2⟩, h3⟩ := h
  rcases h2 with ⟨_, h4⟩ | ⟨g, cap, cur, rfl, _, h5, h6, h7, h8, h9⟩
  · omega
  · have hz : ∀ c x, ICs ρ U w u c x → c.length = u.size := fun c x q => ICs.length q
    have hle : j * u.size + u.size ≤ xs.length * u.size := by rw [← Nat.succ_mul]; exact Nat.mul_le_mul_right _ hj
    have hget : xs.getD j u.dflt = xs[j] := by rw [List.getD_eq_getElem?_getD, List.getElem?_eq_getElem hj]; rfl
    subst h9
    refine ⟨g, cap, cur, _, rfl, h5, h8, h6, h7, by rw [hget]; exact Els.get hz h3 j hj, fun q hq => ?_, h3⟩
    rw [List.getElem?_take, if_pos hq, List.getElem?_drop, List.getElem?_take, if_pos (by omega)]
    simp
theorem gath_one {l : List A} {vs : List Value} (h : ∀ i, i < l.length → ∃ x, vs[i]? = some x ∧ RA ρ U w hd (atn .un l i) x) {u : T} (hp : u.isPair = false) {c : Nat} {y : u.den} (e : A.toV [] u (atn .un l c) = some y) :
    ∃ ds, ICs ρ U w u ds y ∧ ∀ j, j < u.size → vs[c + j]? = ds[j]? := by
  have hc : c < l.length := by
    rcases Nat.lt_or_ge c l.length with q | q
    · exact q
    · rw [atn_out _ _ _ q] at e
      cases u <;> simp [A.toV] at e
  obtain ⟨x, hx, hr⟩ := h c hc
  obtain ⟨cs, rfl, hi⟩ := toV0 e hr
  obtain ⟨v, rfl, _⟩ := ICs.one hp hi
  have hs := T.size_one _ hp
  refine ⟨[v], hi, fun j hj => ?_⟩
  obtain rfl : j = 0 := by omega
  rw [pack_one hp] at hx
  simpa using hx
theorem gath_ok {l : List A} {vs : List Value} (h : ∀ i, i < l.length → ∃ x, vs[i]? = some x ∧ RA ρ U w hd (atn .un l i) x) : ∀ {t : T} {c : Nat} {y : t.den}, gath l t c = some y → ∃ ds, ICs ρ U w t ds y ∧ ∀ j, j < t.size → vs[c + j]? = ds[j]?
  | .pair a b, c, y, e => by
    unfold gath at e
    split at e
    · rename_i x1 x2 h1 h2
      injection e with e
      subst e
      obtain ⟨d1, i1, j1⟩ := gath_ok h h1
      obtain ⟨d2, i2, j2⟩ := gath_ok h h2
      have l1 := ICs.length i1
      have hs : (T.pair a b).size = a.size + b.size := rfl
      refine ⟨d1 ++ d2, ⟨d1, d2, rfl, i1, i2⟩, fun j hj => ?_⟩
      by_cases hj1 : j < a.size
      · rw [List.getElem?_append_left (by omega)]
        exact j1 j hj1
      · rw [List.getElem?_append_right (by omega), l1, ← j2 (j - a.size) (by omega), show c + a.size + (j - a.size) = c + j by omega]
    · cases e
  | .int _, _, _, e => gath_one h rfl e
  | .bool, _, _, e => gath_one h rfl e
  | .flt, _, _, e => gath_one h rfl e
  | .list _, _, _, e => gath_one h rfl e
  | .obj _, _, _, e => gath_one h rfl e
  | .ptr _, _, _, e => gath_one h rfl e
  | .one t, c, y, e => gath_ok h (t := t) (c := c) (y := y) e
theorem load_agg (ok : TabOk P tab) {id : TypeId} {i : TI} (h : tab.find id = some i) (hp : i.t.isPair = true) {b o : Nat} {ds : List Value} (hl : ds.length = i.t.size) {w' : World} (hc : ∀ j, j < ds.length → w'.cell? ⟨b, o + j, none⟩ = ds[j]?) :
    (Instr.loadAt id (.pointer (some ⟨b, o, none⟩))).run P w' = .ok (.agg ds.toArray) w' := by
  have h1 := isAgg_run ok h w'
  have h2 := sizeOf_run ok h w'
  unfold Instr.loadAt loadVar
  simp only [Instr.sureAddr]
  rw [Sem.run_bind]
  simp only [Sem.run_pure, Result.andThen_ok]
  rw [Sem.run_bind, h1, Result.andThen_ok, hp]
  simp only [if_true]
  rw [Sem.run_bind, h2, Result.andThen_ok, Sem.run_bind, ← hl, run_loadCells_list w' ⟨b, o, none⟩ ds (fun j v hj => ?_)]
  · simp [go_sem]
  · have hj' : j < ds.length := (List.getElem?_eq_some_iff.1 hj).1
    rw [← hj, ← hc j hj']
    congr 1
    unfold Addr.add
    split
    · rename_i e; subst e; rfl
    · rfl
theorem tup_all {l : List A} : ∀ {vs : List Value}, vs.length = l.length → (∀ i, i < l.length → ∃ x, vs[i]? = some x ∧ x.oneCell' = true ∧ RA ρ U w hd (atn .un l i) x) → (∀ x ∈ vs, x.oneCell' = true) ∧ RA ρ U w hd (tupA l) (.tuple vs.toArray) := by
  induction l with
  | nil =>
    intro vs hl _
    have : vs = [] := List.eq_nil_of_length_eq_zero hl
    subst this
    exact ⟨fun x hx => by (cases hx), rfl⟩
  | cons y l ih =>
    intro vs hl h
    cases vs with
    | nil => cases hl
    | cons v vs =>
      obtain ⟨x, x1, x2, x3⟩ := h 0 (by simp)
      obtain rfl : v = x := by simpa using x1
      obtain ⟨g1, g2⟩ := ih (vs := vs) (by simpa using hl) (fun i hi => by
        obtain ⟨x, q1, q2, q3⟩ := h (i + 1) (by simpa using hi)
        exact ⟨x, by simpa using q1, q2, q3⟩)
      refine ⟨fun z hz => ?_, v, vs, rfl, x3, g2⟩
      rcases List.mem_cons.1 hz with rfl | hz
      · exact x2
      · exact g1 z hz
theorem tupA_refs : ∀ {l : List A} {j : Nat}, j ∈ (tupA l).refs → j ∈ l.flatMap A.refs
  | [], j, h => by simp [tupA, A.refs] at h
  | x :: l, j, h => by
    simp only [tupA, A.refs, List.mem_append] at h
    rw [List.flatMap_cons, List.mem_append]
    exact h.imp id (tupA_refs (l := l))
theorem load_sound (ok : TabOk P tab) {w0 : World} {U0 : Nat → Prop} {own : Nat} {fx : Nat → Bool} {hd0 : Nat → Value} {st : St} {a : Act} (H : Rel ρ w0 U0 own fx hd0 st a w hd) {t : TypeId} {x : Operand} (h : loadZ tab st t (ev st x) k = some r) :
    ∃ z v, k z = some r ∧ RA ρ (Us U0 st.ob.length hd) w hd z v ∧ (∀ j ∈ z.refs, j < st.ob.length) ∧ ∀ w', Ag (fun _ => False) w w' → (Instr.loadAt t (a.eval x)).run P w' = .ok v w' := by
  have he := H.ev_ x
  unfold loadZ at h
  split at h
  · rename_i i u y hf hx
    rw [hx] at he
    split at h
    · rename_i hu
      subst hu
      obtain ⟨b, off, cs, e, h1, h2⟩ := he
      refine ⟨_, _, h, ⟨cs, rfl, h1⟩, by simp [A.refs], fun w' hw' => ?_⟩
      rw [e]
      exact load_run ok hf h1 (h2 w' (hw'.mono (fun _ _ h => h.elim)))
    · cases h
  · rename_i i m j c s u hf hx
    rw [hx] at he
    split at h
    · rename_i e' u' xs hat
      split at h
      · rename_i hu
        obtain ⟨rfl, rfl⟩ := hu
        split at h
        · rename_i z hz
          obtain ⟨b, l, c', e1, e2, e3⟩ := he
          have hm : m < st.ob.length := by
            rcases Nat.lt_or_ge m st.ob.length with q | q
            · exact q
            · rw [atn_out _ _ _ q] at hat; cases hat
          have hro := H.ob m hm
          rw [hat] at hro
          have hl : l = xs.length := by
            obtain ⟨cs, q1, q2⟩ := hro
            obtain ⟨a', c'', q3, _⟩ := (own_hdr q1).1.form
            rw [e1] at q3
            injection q3
          subst hl
          obtain ⟨g, cap, cur, ds, q1, q2, q3, q4, q5, q6, q7, _⟩ := elem_cells hro e2
          rw [e1] at q1
          injection q1 with q1 _ _
          injection q1 with q1
          injection q1 with q1
          subst q1
          obtain ⟨k1, k2⟩ := ICs.sub _ q6 hz
          refine ⟨_, _, h, ⟨_, rfl, k1⟩, by simp [A.refs], fun w' hw' => ?_⟩
          rw [e3]
          refine load_run ok hf k1 (fun q hq => ?_)
          have hb : w'.heap[b]? = w.heap[b]? := hw'.block b (Array.getElem?_eq_some_iff.1 q2).1 (fun h => h)
          rw [List.getElem?_take, if_pos hq, List.getElem?_drop, ← q7 (c + q) (by omega)]
          simp [World.cell?, hb, q2, Nat.add_assoc]
        · cases h
      · cases h
    · cases h
  · rename_i i m c hf hx
    rw [hx] at he
    split at h
    · rename_i e' l hat
      have hm : m < st.ob.length := by
        rcases Nat.lt_or_ge m st.ob.length with q | q
        · exact q
        · rw [atn_out _ _ _ q] at hat; cases hat
      obtain ⟨b, e1, e2⟩ := he
      have hro := H.ob m hm
      rw [hat] at hro
      obtain ⟨b', vs, q1, q2, q3, q4, q5⟩ := hro
      rw [e1] at q1
      injection q1 with q1
      injection q1 with q1
      injection q1 with q1
      subst q1
      split at h
      · split at h
        · rename_i y hy
          obtain ⟨ds, g1, g2⟩ := gath_ok (vs := vs) (fun i hi => by
            obtain ⟨x, x1, _, x3⟩ := q5 i hi
            exact ⟨x, x1, x3⟩) hy
          refine ⟨_, _, h, ⟨ds, rfl, g1⟩, by simp [A.refs], fun w' hw' => ?_⟩
          have hb : w'.heap[b]? = w.heap[b]? := hw'.block b (Array.getElem?_eq_some_iff.1 q3).1 (fun h => h)
          rw [e2]
          refine load_run ok hf g1 (fun j hj => ?_)
          rw [← g2 j hj]
          simp [World.cell?, hb, q3]
        · rename_i hpp _ _
          split at h
          · rename_i hcl
            obtain ⟨rfl, hll⟩ := hcl
            obtain ⟨g1, g2⟩ := tup_all q4 q5
            refine ⟨_, .agg vs.toArray, h, ⟨vs, rfl, g1, g2⟩, fun j hj => H.wo m j (by rw [hat]; exact tupA_refs hj), fun w' hw' => ?_⟩
            have hb : w'.heap[b]? = w.heap[b]? := hw'.block b (Array.getElem?_eq_some_iff.1 q3).1 (fun h => h)
            rw [e2]
            refine load_agg ok hf hpp (by omega) (fun j hj => ?_)
            simp [World.cell?, hb, q3]
          · cases h
      · rename_i hnp
        have hp : i.t.isPair = false := by simpa using hnp
        split at h
        · rename_i hc
          obtain ⟨y, hy, ho, hya⟩ := q5 c hc
          refine ⟨_, y, h, hya, fun j hj => H.wo m j (by rw [hat]; exact List.mem_flatMap.2 ⟨_, atn_mem _ _ _ hc, hj⟩), fun w' hw' => ?_⟩
          have hb : w'.heap[b]? = w.heap[b]? := hw'.block b (Array.getElem?_eq_some_iff.1 q3).1 (fun h => h)
          have hcell : w'.cell? ⟨b, c, none⟩ = some y := by simp [World.cell?, hb, q3, hy]
          have hag := isAgg_run ok hf w'
          rw [hp] at hag
          rw [e2]
          unfold Instr.loadAt loadVar
          simp only [Instr.sureAddr]
          rw [Sem.run_bind]
          simp only [Sem.run_pure, Result.andThen_ok]
          rw [Sem.run_bind, hag, Result.andThen_ok]
          simp [hcell, go_sem]
        · cases h
    · cases h
  · cases h
variable {w0 : World} {U0 : Nat → Prop} {own : Nat} {fx : Nat → Bool} {hd0 : Nat → Value} {st : St} {a : Act}
theorem own_mono {B B' sz n : Nat} {e : TypeId} {v : Value} {cs : List Value} (h : w.ownsRow B e sz v n cs) (hB : B' ≤ B) : w.ownsRow B' e sz v n cs := by
  obtain ⟨h1, h2⟩ := h
  refine ⟨h1, h2.imp id ?_⟩
  rintro ⟨g, cap, cur, e1, e2, e3⟩
  exact ⟨g, cap, cur, e1, Nat.le_trans hB e2, e3⟩
def upd (f : Nat → Value) (n : Nat) (v : Value) : Nat → Value := fun i => if i = n then v else f i
theorem upd_same (f : Nat → Value) (n : Nat) (v : Value) : upd f n v n = v := by simp [upd]
theorem upd_ne {f : Nat → Value} {n i : Nat} {v : Value} (h : i ≠ n) : upd f n v i = f i := by simp [upd, h]
theorem us_new {w : World} {hd : Nat → Value} {m : Nat} {v : Value} (hv : ∀ b, blk v = some b → w.heap.size ≤ b) : ∀ b, b < w.heap.size → Us U0 (m + 1) (upd hd m v) b → Us U0 m hd b := by
  rintro b hb (hu | ⟨i, hi, hib⟩)
  · exact .inl hu
  · by_cases e : i = m
    · subst e
      rw [upd_same] at hib
      have := hv b hib
      omega
    · rw [upd_ne e] at hib
      exact .inr ⟨i, by omega, hib⟩
/-- A new row. -/
theorem Rel.newRow (H : Rel ρ w0 U0 own fx hd0 st a w hd) {w' : World} (k : Ag (fun _ => False) w w') {e : TypeId} {t : T} {xs : List t.den} {v : Value} {cs : List Value} (ho : w'.ownsRow w.heap.size e t.size v xs.length cs)
    (hE : Els (ICs ρ (Us U0 st.ob.length hd) w t) cs xs) (d : Option Tmp) : Rel ρ w0 U0 own fx hd0 (St.put ⟨st.tm, st.ob ++ [.row e t xs]⟩ d (.row st.ob.length)) (a.put d v) w' (upd hd st.ob.length v) := by
  have hb : ∀ b, blk v = some b → w.heap.size ≤ b := fun b hb => (own_blk ho hb).1
  have ht : Tr (Us U0 st.ob.length hd) w (Us U0 (st.ob.length + 1) (upd hd st.ob.length v)) w' := Tr.of k (fun _ _ h => h.elim) (us_new hb)
  have h1 := H.new k (o := .row e t xs) (v := v) (upd hd st.ob.length v) (fun i hi => upd_ne (by omega)) (upd_same _ _ _) (by simp [Ob.refs]) hb ⟨cs, own_mono ho H.ag.size, hE.mono (fun _ _ q => ICs.tr ht q)⟩
  exact h1.put (by simp [RA, upd_same]) (by simp [A.refs]) d
theorem flat_get (zs : List Value) : ∀ (n j : Nat), (List.replicate n zs).flatten[j]? = if j < n * zs.length then zs[j % zs.length]? else none
  | 0, j => by simp
  | n + 1, j => by
    rw [List.replicate_succ, List.flatten_cons]
    rcases Nat.lt_or_ge j zs.length with h | h
    · rw [List.getElem?_append_left h, if_pos (by rw [Nat.succ_mul]; omega), Nat.mod_eq_of_lt h]
    · rw [List.getElem?_append_right h, flat_get zs n (j - zs.length)]
      have e : (n + 1) * zs.length = n * zs.length + zs.length := Nat.succ_mul _ _
      have e2 : (j - zs.length) % zs.length = j % zs.length := (Nat.mod_eq_sub_mod h).symm
      by_cases hj : j < (n + 1) * zs.length
      · rw [if_pos hj, if_pos (by omega), e2]
      · rw [if_neg hj, if_neg (by omega)]
theorem made_flat (zs : List Value) (n : Nat) (hz : 0 < zs.length) : (madeCells zs.toArray (n * zs.length)).toList = (List.replicate n zs).flatten := by
  apply List.ext_getElem?
  intro j
  rw [flat_get]
  simp only [madeCells, Array.toList_map, Array.toList_range, List.getElem?_map, List.size_toArray]
  by_cases h : j < n * zs.length
  · have hm : j % zs.length < zs.length := Nat.mod_lt _ hz
    rw [if_pos h, List.getElem?_range h]
    simp [List.getElem?_eq_getElem hm]
  · rw [if_neg h, List.getElem?_eq_none (by simp; omega)]
    rfl
theorem zero_len : ∀ t : T, (zeroC t).length = t.size
  | .int _ => rfl
  | .bool => rfl
  | .flt => rfl
  | .list _ => rfl
  | .pair a b => by simp [zeroC, T.size, zero_len a, zero_len b]
  | .obj _ => rfl
  | .ptr _ => rfl
  | .one t => zero_len t
/-- make([]T, 0, m). -/
theorem make_cap (ok : TabOk P tab) {t e : TypeId} {i : TI} (h : elemZ tab t = some (e, i)) {m : Int} (h0 : 0 ≤ m) (hm : m.toNat * i.bytes ≤ 140737488355328) (w : World) : ∃ v w', (Instr.makeSlice t (.int .i64 0) (.int .i64 m)).run P w = .ok v w' ∧ w'.ownsRow w.heap.size e i.t.size v 0 [] ∧ Ag (fun _ => False) w w' := by
  obtain ⟨h1, h2⟩ := elem_ok ok h
  obtain ⟨inf, i1, i2, i3, i4, i5⟩ := ok.info _ _ h2
  have hle : m.toNat ≤ 140737488355328 := Nat.le_trans (Nat.le_mul_of_pos_right _ i4) hm
  obtain ⟨w', q1, q2, q3⟩ := run_make_own (P := P) w w.heap.size t e inf _ i.t.size h1 i1 i5 i2 .i64 .i64 m.toNat (by rw [i3, Nat.mul_comm]; omega) (by unfold maxLen; omega) (Nat.le_refl _)
  rw [Int.toNat_of_nonneg h0] at q1
  exact ⟨_, w', q1, q2, Ag.of_grown q3 (fun b hb => by cases hb)⟩
/-- make([]T, m). -/
theorem make_full (ok : TabOk P tab) {t e : TypeId} {i : TI} (h : elemZ tab t = some (e, i)) {m : Int} (h0 : 0 ≤ m) (hm : m.toNat * i.bytes ≤ 140737488355328) (w : World) : ∃ v w', (Instr.makeSlice t (.int .i64 m) (.int .i64 m)).run P w = .ok v w' ∧ w'.ownsRow w.heap.size e i.t.size v m.toNat (List.replicate m.toNat (zeroC i.t)).flatten ∧ Ag (fun _ => False) w w' := by
  obtain ⟨h1, h2⟩ := elem_ok ok h
  obtain ⟨inf, i1, i2, i3, i4, i5⟩ := ok.info _ _ h2
  have hle : m.toNat ≤ 140737488355328 := Nat.le_trans (Nat.le_mul_of_pos_right _ i4) hm
  have hz := zero_len i.t
  have hp := T.size_pos i.t
  have hb : (i.bytes : Int) * m ≤ 281474976710656 := by
    have h3 : ((i.bytes * m.toNat : Nat) : Int) ≤ 281474976710656 := by rw [Nat.mul_comm]; omega
    rwa [Int.natCast_mul, Int.toNat_of_nonneg h0] at h3
  have hr := run_make (P := P) w t e inf _ h1 i1 i5 .i64 .i64 m m h0 (Int.le_refl _) (by rw [i3]; exact hb) (by omega)
  refine ⟨_, _, hr, ?_, ⟨rfl, rfl, rfl, by simp, fun b hb _ => Below.heap_alloc w _ b hb⟩⟩
  have hpc : (pack i.t (zeroC i.t)).cells = (zeroC i.t).toArray := pack_cs (zero_ics (ρ := ⟨fun _ _ _ _ => True, fun _ => False⟩) (U := fun _ => True) (w := w) i.t)
  rw [hpc, i2, ← hz]
  have hf := made_flat (zeroC i.t) m.toNat (by omega)
  refine ⟨by rw [← hf]; simp [madeCells], .inr ⟨w.heap.size, _, _, rfl, Nat.le_refl _, heap_alloc_new w _, Nat.le_refl _, by unfold maxLen; omega, by simp [madeCells], ?_⟩⟩
  rw [← hf, List.take_of_length_le (by simp [madeCells])]
/-- Numbered parts, one behind the other, fill a row from element i0 on. -/
theorem fill_row (sz : Nat) : ∀ (vs : List (List Value)) (ws : List Value) (i0 : Nat) (pre post : List Value), All2 (fun c v => c.length = sz ∧ v.cells = c.toArray) vs ws → pre.length = i0 * sz → post.length = vs.length * sz →
    Instr.fill (fun i => some (i * sz, sz)) (pre ++ post).toArray (ws.zipIdx i0 |>.map fun p => (p.2, p.1)) = some (pre ++ vs.flatten).toArray
  | [], [], i0, pre, post, _, _, h => by
    have : post = [] := List.eq_nil_of_length_eq_zero (by simpa using h)
    subst this
    simp [Instr.fill]
  | [], _ :: _, _, _, _, h, _, _ => h.elim
  | _ :: _, [], _, _, _, h, _, _ => h.elim
  | c :: vs, v :: ws, i0, pre, post, ⟨⟨h1, h2⟩, h3⟩, hp, hq => by
    rw [List.length_cons, Nat.succ_mul] at hq
    rw [List.zipIdx_cons, List.map_cons]
    simp only
    rw [fill_ok (ds := c) (by rw [h1]) h2 (by rw [List.length_append]; omega)]
    rw [← hp, List.take_left' rfl, h1, ← List.drop_drop, List.drop_left' rfl]
    have := fill_row sz vs ws (i0 + 1) (pre ++ c) (post.drop sz) h3 (by rw [List.length_append, h1, hp, Nat.succ_mul]) (by rw [List.length_drop]; omega)
    rw [this, List.flatten_cons, List.append_assoc]
theorem parts_all {st : St} {ev' : Operand → Value} (ob : List Ob) {u : T} : ∀ (ps : List (Nat × Operand)) (m : Nat) {l : List u.den}, (∀ p ∈ ps, ∀ y, A.toV ob u (ev st p.2) = some y → ∃ cs, ev' p.2 = pack u cs ∧ ICs ρ U w u cs y) → partsV ob u m (ps.map fun p => (p.1, ev st p.2)) = some l →
    ∃ vs, All2 (fun c v => c.length = u.size ∧ v.cells = List.toArray c) vs (ps.map fun p => ev' p.2) ∧ Els (ICs ρ U w u) vs.flatten l ∧ vs.length = l.length ∧ (ps.map fun p => (p.1, ev' p.2)) = ((ps.map fun p => ev' p.2).zipIdx m).map fun p => (p.2, p.1)
  | [], m, l, _, h => by cases h; exact ⟨[], trivial, rfl, rfl, rfl⟩
  | (j, x) :: ps, m, l, hv, h => by
    simp only [List.map_cons, partsV] at h
    split at h
    · rename_i hj
      subst hj
      split at h
      · rename_i y ys hy hys
        cases h
        obtain ⟨c, e1, e2⟩ := hv (j, x) (by simp) y hy
        simp only at e1
        obtain ⟨vs, q1, q2, q3, q4⟩ := parts_all ob ps (j + 1) (fun p hp => hv p (by simp [hp])) hys
        refine ⟨c :: vs, ⟨⟨ICs.length e2, by show (ev' x).cells = _; rw [e1]; exact pack_cs e2⟩, q1⟩, ⟨c, _, rfl, e2, q2⟩, by simp [q3], ?_⟩
        simp only [List.map_cons, List.zipIdx_cons, q4]
      · cases h
    · cases h
/-- A slice literal. -/
theorem build_row (ok : TabOk P tab) {t e : TypeId} {i : TI} (h : elemZ tab t = some (e, i)) {vs : List (List Value)} {ws : List Value} {parts : Array (Nat × Value)} (hp : parts.toList = (ws.zipIdx 0).map fun p => (p.2, p.1)) (ha : All2 (fun c v => c.length = i.t.size ∧ v.cells = List.toArray c) vs ws) (hs : vs.length * i.t.size ≤ 16777216) (w : World) :
    ∃ v w', (Instr.buildSlice t vs.length parts).run P w = .ok v w' ∧ w'.ownsRow w.heap.size e i.t.size v vs.length vs.flatten ∧ Ag (fun _ => False) w w' := by
  obtain ⟨h1, h2⟩ := elem_ok ok h
  obtain ⟨inf, i1, i2, i3, i4, i5⟩ := ok.info _ _ h2
  have hz := zero_len i.t
  have hps := T.size_pos i.t
  have hpc : (pack i.t (zeroC i.t)).cells = (zeroC i.t).toArray := pack_cs (zero_ics (ρ := ⟨fun _ _ _ _ => True, fun _ => False⟩) (U := fun _ => True) (w := w) i.t)
  have hlen : vs.flatten.length = vs.length * i.t.size := by
    clear hs hp
    induction vs generalizing ws with
    | nil => simp
    | cons c vs ih => cases ws with
      | nil => exact ha.elim
      | cons v ws => rw [List.flatten_cons, List.length_append, ha.1.1, ih ha.2, List.length_cons, Nat.succ_mul]; omega
  rcases Nat.eq_zero_or_pos vs.length with h0 | h0
  · have hvs : vs = [] := List.eq_nil_of_length_eq_zero h0
    subst hvs
    have hws : ws = [] := by cases ws with
      | nil => rfl
      | cons _ _ => exact ha.elim
    subst hws
    have hr : (Instr.buildSlice t 0 parts).run P w = .ok (.slice (some ⟨w.heap.size, 0, none⟩) 0 0) (w.alloc (.cells #[] e)) := by
      have : parts = #[] := by
        apply Array.toList_inj.1
        simpa using hp
      subst this
      simp [Instr.buildSlice, run_underlying h1, sizeOf, typeInfo, i1, Instr.fill, Go.newRow, Array.range_zero']
    refine ⟨_, _, hr, ⟨by simp, .inr ⟨w.heap.size, 0, #[], rfl, Nat.le_refl _, heap_alloc_new w _, Nat.le_refl _, Nat.zero_le _, by simp, by simp⟩⟩, ⟨rfl, rfl, rfl, by simp, fun b hb _ => Below.heap_alloc w _ b hb⟩⟩
  · have hpos : 0 < vs.length * i.t.size := Nat.mul_pos h0 hps
    have hm := made_flat (zeroC i.t) vs.length (by omega)
    have hfill := fill_row i.t.size vs ws 0 [] (List.replicate vs.length (zeroC i.t)).flatten ha (by simp) (by rw [← hm, hz]; simp [madeCells])
    simp only [List.nil_append] at hfill
    have hr := run_buildSlice (P := P) w t e vs.length parts vs.flatten.toArray inf _ h1 i1 i5 (by rw [i2]; omega) (by rw [i2]; omega) (by
      have hm' : madeCells (zeroC i.t).toArray (vs.length * (zeroC i.t).length) = (List.replicate vs.length (zeroC i.t)).flatten.toArray := by rw [← hm, Array.toArray_toList]
      rw [hpc, i2, hp, ← hfill, ← hm', hz]
      rfl)
    refine ⟨_, _, hr, ⟨hlen, .inr ⟨w.heap.size, _, _, rfl, Nat.le_refl _, heap_alloc_new w _, Nat.le_refl _, ?_, by simp [hlen], by simp only [List.take_of_length_le (Nat.le_of_eq hlen)]⟩⟩, ⟨rfl, rfl, rfl, by simp, fun b hb _ => Below.heap_alloc w _ b hb⟩⟩
    have : vs.length ≤ vs.length * i.t.size := Nat.le_mul_of_pos_right _ hps
    unfold maxLen
    omega
theorem us_same {w : World} {hd : Nat → Value} {m n : Nat} {v : Value} (hv : ∀ b, blk v = some b → blk (hd m) = some b ∨ w.heap.size ≤ b) : ∀ b, b < w.heap.size → Us U0 n (upd hd m v) b → Us U0 n hd b := by
  rintro b hb (hu | ⟨i, hi, hib⟩)
  · exact .inl hu
  · by_cases e : i = m
    · subst e
      rw [upd_same] at hib
      rcases hv b hib with h | h
      · exact .inr ⟨i, hi, h⟩
      · omega
    · rw [upd_ne e] at hib
      exact .inr ⟨i, hi, hib⟩
/-- A row's content, known for ever once nobody writes the row any more. -/
theorem row_ird {B : Nat} {e : TypeId} {t : T} {xs : List t.den} {v : Value} (h : RO ρ U w hd B (.row e t xs) v) {U' : Nat → Prop} (ht : Tk ρ.V U w U' w t.weak) (hv : ∀ b, blk v = some b → ¬ U' b) :
    IRd ρ U' w (.list t) v xs ∧ ∀ n a l c c', v = .slice a l c → n ≤ l → (n ≤ c') → IRd ρ U' w (.list t) (.slice a n c') (xs.take n) := by
  obtain ⟨cs, h1, h2⟩ := h
  have hz : ∀ c x, ICs ρ U' w t c x → c.length = t.size := fun c x q => ICs.length q
  have h3 : Els (ICs ρ U' w t) cs xs := h2.mono (fun _ _ q => ICs.tk ht q)
  obtain ⟨hl, h4⟩ := h1
  rcases h4 with ⟨rfl, h0⟩ | ⟨g, cap, cur, rfl, _, h5, h6, h7, h8, h9⟩
  · have hx : xs = [] := List.eq_nil_of_length_eq_zero h0
    subst hx
    refine ⟨⟨[.slice none 0 0], rfl, none, 0, [], rfl, Nat.zero_le _, Nat.le_refl _, rfl, fun h => absurd h (by simp)⟩, fun n a l c c' e hn hc => ?_⟩
    injection e with e1 e2 e3
    subst e1 e2 e3
    have : n = 0 := by omega
    subst this
    exact ⟨[.slice none 0 c'], rfl, none, c', [], rfl, Nat.zero_le _, by simp, rfl, fun h => absurd h (by simp)⟩
  · have hcell : ∀ w', Ag U' w w' → ∀ j, j < cs.length → w'.cell? ⟨g, 0 + j, none⟩ = cs[j]? := fun w' hw' j hj => by
      have hb : w'.heap[g]? = w.heap[g]? := hw'.block g (Array.getElem?_eq_some_iff.1 h5).1 (hv g rfl)
      rw [Nat.zero_add, ← h9, List.getElem?_take, if_pos (by omega)]
      simp [World.cell?, hb, h5]
    refine ⟨⟨[.slice (some ⟨g, 0, none⟩) xs.length cap], rfl, _, cap, cs, rfl, Nat.le_trans h6 h7, h6, h3, fun _ => ⟨g, 0, rfl, hcell⟩⟩, fun n a l c c' e hn hc => ?_⟩
    injection e with e1 e2 e3
    subst e1 e2 e3
    have hln : (xs.take n).length = n := by rw [List.length_take]; omega
    refine ⟨[.slice (some ⟨g, 0, none⟩) n c'], rfl, _, c', cs.take (n * t.size), by rw [hln], by rw [hln]; omega, by rw [hln]; exact hc, Els.take hz h3 n, fun _ => ⟨g, 0, rfl, fun w' hw' j hj => ?_⟩⟩
    rw [List.length_take] at hj
    rw [hcell w' hw' j (by omega), List.getElem?_take, if_pos (by omega)]
/-- Object m becomes another one, where it lies. -/
theorem Rel.set (h : Rel ρ w0 U0 own fx hd0 st a w hd) {m : Nat} (hm : m < st.ob.length) {w' : World} (hag : Ag (fun b => blk (hd m) = some b) w w') {o' : Ob} (hor : ∀ j ∈ o'.refs, j < st.ob.length)
    (hro : RO ρ (Us U0 st.ob.length hd) w' hd (if m < own then 0 else w0.heap.size) o' (hd m)) : Rel ρ w0 U0 own fx hd0 ⟨st.tm, setn o' st.ob m⟩ a w' hd := by
  have ht : Tr (Us U0 st.ob.length hd) w (Us U0 st.ob.length hd) w' := Tr.of hag (fun b _ hb => .inr ⟨m, hm, hb⟩) (fun _ _ h => h)
  have hlen : (setn o' st.ob m).length = st.ob.length := length_setn _ _ _
  have hoth : ∀ i, i < st.ob.length → i ≠ m → ∀ b, blk (hd i) = some b → w'.heap[b]? = w.heap[b]? := fun i hi e b hb => hag.block b (h.lt hi hb) (fun hb' => h.ne i m hi hm e b hb hb')
  refine ⟨h.sz, h.df, fun i v hv => ?_, fun i hi => ?_, fun i j hi hj => ?_, h.keep, h.kp, by rw [hlen]; exact h.ow, ?_, h.u0, fun i j hj => ?_, fun i j hj => ?_⟩
  · rw [hlen]
    exact RA.tr ht (fun _ _ => rfl) (h.sl i v hv)
  · rw [hlen] at hi ⊢
    by_cases e : m = i
    · subst e
      have e3 : atn Ob.gone (setn o' st.ob m) m = o' := by rw [atn_setn, if_pos ⟨rfl, hm⟩]
      rw [e3]
      exact hro
    · have e3 : atn Ob.gone (setn o' st.ob m) i = atn Ob.gone st.ob i := by rw [atn_setn, if_neg (fun hc => e hc.1)]
      rw [e3]
      exact RO.tr ht (fun _ _ => rfl) (hoth i hi (Ne.symm e)) (h.ob i hi)
  · rw [hlen] at hi hj
    exact h.ne i j hi hj
  · refine ⟨hag.os.trans h.ag.os, hag.tape.trans h.ag.tape, hag.output.trans h.ag.output, Nat.le_trans h.ag.size hag.size, fun b hb hn => ?_⟩
    refine (hag.block b (Nat.lt_of_lt_of_le hb h.ag.size) (fun hbm => ?_)).trans (h.ag.block b hb hn)
    rcases Nat.lt_or_ge m own with h1 | h1
    · rcases h.kp m h1 b hbm with h2 | h2
      · exact hn (.inr ⟨m, h1, h2⟩)
      · omega
    · have := h.ge hm h1 hbm
      omega
  · rw [hlen]
    exact h.wt i j hj
  · rw [hlen]
    rw [atn_setn] at hj
    split at hj
    · exact hor j hj
    · exact h.wo i j hj
theorem us_drop (H : Rel ρ w0 U0 own fx hd0 st a w hd) {m : Nat} (hm : m < st.ob.length) : ∀ b, blk (hd m) = some b → ¬ Us U0 st.ob.length (upd hd m nilV) b := by
  rintro b hb (hu | ⟨i, hi, hib⟩)
  · exact H.u0n hm hb hu
  · by_cases e : i = m
    · subst e
      rw [upd_same] at hib
      simp [blk, nilV] at hib
    · rw [upd_ne e] at hib
      exact H.ne i m hi hm e b hib hb
theorem blk_nilV : blk nilV = none := rfl
/-- A row is read for ever. -/
theorem Rel.frz (H : Rel ρ w0 U0 own fx hd0 st a w hd) {m : Nat} {e : TypeId} {t : T} {xs : List t.den} (hat : atn .gone st.ob m = .row e t xs) (ho : own ≤ m) : Rel ρ w0 U0 own fx hd0 (st.frz m) a w (upd hd m nilV) := by
  have hm : m < st.ob.length := by
    rcases Nat.lt_or_ge m st.ob.length with q | q
    · exact q
    · rw [atn_out _ _ _ q] at hat; cases hat
  have hro := H.ob m hm
  rw [hat] at hro
  have hU : ∀ b, b < w.heap.size → Us U0 st.ob.length (upd hd m nilV) b → Us U0 st.ob.length hd b := us_same (w := w) (fun b hb => by rw [blk_nilV] at hb; cases hb)
  have hri := row_ird hro (Tk.of (Tr.of (V := fun _ => False) (Ag.refl _ _) (fun _ _ h => h.elim) hU)) (us_drop H hm)
  have := H.turn hm (w' := w) (Ag.refl _ _) (o := .row e t xs) (o' := .gone) (v' := nilV) (upd hd m nilV) (fun i hi => upd_ne hi) (upd_same _ _ _) (fun h _ => by omega) (fun b hb => by rw [blk_nilV] at hb; cases hb) (by simp [Ob.refs])
    (fun e' t' xs' heq => by cases heq; exact hri) rfl
  unfold St.frz
  rw [hat]
  exact this
/-- What is read as a value: known as long as memory stays, but for U'. -/
theorem toV_ird (H : Rel ρ w0 U0 own fx hd0 st a w hd) {u : T} {x : A} {v : Value} {y : u.den} (h : A.toV st.ob u x = some y) (hx : RA ρ (Us U0 st.ob.length hd) w hd x v) {U' : Nat → Prop} (hU : ∀ b, b < w.heap.size → U' b → Us U0 st.ob.length hd b)
    (hrow : ∀ i ∈ x.rowOf, ∀ b, blk (hd i) = some b → ¬ U' b) : IRd ρ U' w u v y := by
  have ht : Tr (Us U0 st.ob.length hd) w U' w := Tr.of (V := fun _ => False) (Ag.refl _ _) (fun _ _ h => h.elim) hU
  unfold A.toV at h
  split at h
  · split at h
    · rename_i e
      subst e
      cases h
      exact IRd.tr hx ht
    · cases h
  · split at h
    · cases h
      exact ⟨[.slice none 0 0], hx, none, 0, [], rfl, Nat.zero_le _, Nat.le_refl _, rfl, fun h => absurd h (by simp)⟩
    · cases h
  · split at h
    · cases h
      exact ⟨[.pointer none], hx, _, rfl, rfl⟩
    · cases h
      exact ⟨[.pointer none], hx, _, rfl, rfl⟩
    · cases h
  · rename_i i
    split at h
    · rename_i e t xs hat
      split at h
      · rename_i hu
        subst hu
        cases h
        have hi : i < st.ob.length := by
          rcases Nat.lt_or_ge i st.ob.length with q | q
          · exact q
          · rw [atn_out _ _ _ q] at hat; cases hat
        have hro := H.ob i hi
        rw [hat] at hro
        have e1 : v = hd i := hx
        subst e1
        exact (row_ird hro (Tk.of ht) (hrow i (by simp [A.rowOf]))).1
      · cases h
    · cases h
  · rename_i i nn f
    split at h
    · rename_i e t xs hat
      split at h
      · rename_i hu
        subst hu
        cases h
        have hi : i < st.ob.length := by
          rcases Nat.lt_or_ge i st.ob.length with q | q
          · exact q
          · rw [atn_out _ _ _ q] at hat; cases hat
        have hro := H.ob i hi
        rw [hat] at hro
        obtain ⟨a0, l, c, c', e1, e2, rfl, e3, _⟩ := hx
        exact (row_ird hro (Tk.of ht) (hrow i (by simp [A.rowOf]))).2 nn a0 l c c' e1 e2 e3
      · cases h
    · cases h
  · cases h
/-- What is to be read for ever is frozen. -/
theorem Rel.thaw (H : Rel ρ w0 U0 own fx hd0 st a w hd) {x : A} (hb : x.thawB own = true) (hxl : ∀ j ∈ x.refs, j < st.ob.length) : ∃ hd', Rel ρ w0 U0 own fx hd0 (x.thaw st) a w hd' ∧ (x.thaw st).ob.length = st.ob.length ∧ (∀ i, i ∉ x.rowOf → hd' i = hd i) ∧ (∀ b, Us U0 st.ob.length hd' b → Us U0 st.ob.length hd b) ∧
    ∀ {u : T} {v : Value} {y : u.den}, A.toV st.ob u x = some y → RA ρ (Us U0 st.ob.length hd) w hd x v → IRd ρ (Us U0 st.ob.length hd') w u v y := by
  have main : ∀ i, own ≤ i → i < st.ob.length → x.rowOf = [i] → x.thaw st = st.frz i → ∃ hd', Rel ρ w0 U0 own fx hd0 (x.thaw st) a w hd' ∧ (x.thaw st).ob.length = st.ob.length ∧ (∀ i, i ∉ x.rowOf → hd' i = hd i) ∧ (∀ b, Us U0 st.ob.length hd' b → Us U0 st.ob.length hd b) ∧
    ∀ {u : T} {v : Value} {y : u.den}, A.toV st.ob u x = some y → RA ρ (Us U0 st.ob.length hd) w hd x v → IRd ρ (Us U0 st.ob.length hd') w u v y := by
    intro i ho hi hr hth
    rw [hth]
    cases hat : atn .gone st.ob i with
    | row e t xs =>
      have hus : ∀ b, Us U0 st.ob.length (upd hd i nilV) b → Us U0 st.ob.length hd b := by
        rintro b (hu | ⟨q, hq, hqb⟩)
        · exact .inl hu
        · by_cases e : q = i
          · subst e; rw [upd_same, blk_nilV] at hqb; cases hqb
          · rw [upd_ne e] at hqb; exact .inr ⟨q, hq, hqb⟩
      refine ⟨_, H.frz hat ho, by simp only [St.frz, hat]; rw [length_setn, length_mapn], fun j hj => upd_ne (by rw [hr] at hj; simpa using hj), hus, fun hy hx => toV_ird H hy hx (fun b _ hb => hus b hb) (fun j hj => ?_)⟩
      rw [hr] at hj
      have : j = i := by simpa using hj
      subst this
      exact us_drop H hi
    | cells e l => exact ⟨hd, by simp only [St.frz, hat]; exact H, by simp only [St.frz, hat], fun _ _ => rfl, fun _ h => h, fun hy hx => by
        exfalso
        unfold A.toV at hy
        split at hy <;> simp [A.rowOf] at hr
        · subst hr; rw [hat] at hy; cases hy
        · subst hr; rw [hat] at hy; cases hy⟩
    | gone => exact ⟨hd, by simp only [St.frz, hat]; exact H, by simp only [St.frz, hat], fun _ _ => rfl, fun _ h => h, fun hy hx => by
        exfalso
        unfold A.toV at hy
        split at hy <;> simp [A.rowOf] at hr
        · subst hr; rw [hat] at hy; cases hy
        · subst hr; rw [hat] at hy; cases hy⟩
  have other : x.rowOf = [] → x.thaw st = st → ∃ hd', Rel ρ w0 U0 own fx hd0 (x.thaw st) a w hd' ∧ (x.thaw st).ob.length = st.ob.length ∧ (∀ i, i ∉ x.rowOf → hd' i = hd i) ∧ (∀ b, Us U0 st.ob.length hd' b → Us U0 st.ob.length hd b) ∧
    ∀ {u : T} {v : Value} {y : u.den}, A.toV st.ob u x = some y → RA ρ (Us U0 st.ob.length hd) w hd x v → IRd ρ (Us U0 st.ob.length hd') w u v y := fun hr hth => by
    rw [hth]
    exact ⟨hd, H, rfl, fun _ _ => rfl, fun _ h => h, fun hy hx => toV_ird H hy hx (fun _ _ h => h) (fun j hj => by rw [hr] at hj; cases hj)⟩
  cases x with
  | row i => exact main i (by simpa [A.thawB] using hb) (hxl i (by simp [A.refs])) rfl rfl
  | cut i n f => exact main i (by simpa [A.thawB] using hb) (hxl i (by simp [A.refs])) rfl rfl
  | _ => exact other rfl rfl
end
end Go.Proofs.YthbojpaghbbnnaaDoor.Z
namespace Go.Proofs.YthbojpaghbbnnaaDoor.Z
open Go Go.RowKit
set_option linter.unusedVariables false
set_option linter.unusedSimpArgs false
section
variable {P : Program} {tab : Tab} {ρ : Obs} {U : Nat → Prop} {w : World} {hd : Nat → Value} {w0 : World} {U0 : Nat → Prop} {own : Nat} {fx : Nat → Bool} {hd0 : Nat → Value} {st : St} {a : Act}
theorem splice_take {α : Type} (cur vs : List α) (o N : Nat) (h : o + vs.length ≤ N) (hN : N ≤ cur.length) : (cur.take o ++ vs ++ cur.drop (o + vs.length)).take N = (cur.take N).take o ++ vs ++ (cur.take N).drop (o + vs.length) := by
  rw [List.take_append, List.take_of_length_le (by simp; omega), List.take_take, Nat.min_eq_left (by omega)]
  congr 1
  rw [List.drop_take]
  congr 1
  simp
  omega
theorem splice_elem {α : Type} (cs ds vs : List α) (j c sz : Nat) (hd : ds = (cs.drop (j * sz)).take sz) (hc : c + vs.length ≤ sz) (hl : j * sz + sz ≤ cs.length) :
    cs.take (j * sz + c) ++ vs ++ cs.drop (j * sz + c + vs.length) = cs.take (j * sz) ++ (ds.take c ++ vs ++ ds.drop (c + vs.length)) ++ cs.drop (j * sz + sz) := by
  subst hd
  rw [List.take_add, List.take_take, Nat.min_eq_left (by omega), List.drop_take, List.drop_drop]
  have h1 : cs.drop (j * sz + c + vs.length) = (cs.drop (j * sz + (c + vs.length))).take (sz - (c + vs.length)) ++ cs.drop (j * sz + sz) := by
    rw [← Nat.add_assoc]
    conv => lhs; rw [← List.take_append_drop (sz - (c + vs.length)) (cs.drop (j * sz + c + vs.length))]
    rw [List.drop_drop]
    congr 2
    omega
  rw [h1]
  simp only [List.append_assoc]
theorem setRow_ag (w : World) (g : Nat) (cs : Array Value) {v : Value} (hv : blk v = some g) : Ag (fun b => blk v = some b) w (w.setRow g cs) :=
  ⟨rfl, rfl, rfl, by simp, fun b hb hn => setRow_other w g b cs (fun e => hn (by rw [hv, e]))⟩
theorem storeVar_run (ok : TabOk P tab) {id : TypeId} {i : TI} (h : tab.find id = some i) {v : Value} {vs : List Value} (hv : v.cells = vs.toArray) (hl : vs.length = i.t.size) (h1 : ∀ v ∈ vs, v.oneCell' = true) {g o : Nat} {t : TypeId} {cur : Array Value} (hg : w.heap[g]? = some (.cells cur t (0, 0))) (ho : o + vs.length ≤ cur.size) :
    (Instr.storeAt id (.pointer (some ⟨g, o, none⟩)) v).run P w = .ok () (w.setRow g (cur.toList.take o ++ vs ++ cur.toList.drop (o + vs.length)).toArray) := by
  have h2 := sizeOf_run ok h w
  unfold Instr.storeAt storeVar
  simp only [Instr.sureAddr]
  rw [Sem.run_bind]
  simp only [Sem.run_pure, Result.andThen_ok]
  rw [Sem.run_bind, h2, Result.andThen_ok, hv]
  have h3 : ¬ (vs.toArray.size ≠ i.t.size) := by simp [hl]
  rw [if_neg h3]
  have := run_storeCells_at (P := P) g o t vs 0 cur w hg (by omega) h1
  simpa using this
/-- A store into an element of an own row. -/
theorem store_row (ok : TabOk P tab) (H : Rel ρ w0 U0 own fx hd0 st a w hd) {id : TypeId} {i : TI} (hf : tab.find id = some i) {m j c : Nat} {e : TypeId} {t : T} {xs : List t.den} {z : t.den} {y : i.t.den} (hat : atn .gone st.ob m = .row e t xs) (hj : j < xs.length)
    (hz : T.upd i.t y t c (xs.getD j t.dflt) = some z) {b : Nat} {l cp : Nat} (hb : hd m = .slice (some ⟨b, 0, none⟩) l cp) {v : Value} (hv : IRd ρ (Us U0 st.ob.length hd) w i.t v y) :
    ∃ w', (Instr.storeAt id (.pointer (some ⟨b, j * t.size + c, none⟩)) v).run P w = .ok () w' ∧ Rel ρ w0 U0 own fx hd0 ⟨st.tm, setn (.row e t (xs.set j z)) st.ob m⟩ a w' hd := by
  have hm : m < st.ob.length := by
    rcases Nat.lt_or_ge m st.ob.length with q | q
    · exact q
    · rw [atn_out _ _ _ q] at hat; cases hat
  have hro := H.ob m hm
  rw [hat] at hro
  have hro2 := hro
  obtain ⟨cs0, hown, hels⟩ := hro2
  obtain ⟨g, cap, cur, ds, q1, q2, q3, q4, q5, q6, q7, q8⟩ := elem_cells hro hj
  rw [hb] at q1
  injection q1 with q1 ql qc
  injection q1 with q1
  injection q1 with q1
  subst q1
  obtain ⟨vs, rfl, hvs⟩ := hv
  have hvl := ICs.length hvs
  have hz0 : ∀ c x, ICs ρ (Us U0 st.ob.length hd) w t c x → c.length = t.size := fun c x q => ICs.length q
  have hle : j * t.size + t.size ≤ xs.length * t.size := by rw [← Nat.succ_mul]; exact Nat.mul_le_mul_right _ hj
  have hcap : xs.length * t.size ≤ cap * t.size := Nat.mul_le_mul_right _ q4
  obtain ⟨k1, k2⟩ := ICs.upd i.t hvs q6 hz
  have hr := storeVar_run ok hf (pack_cs hvs) hvl (ICs.ones hvs) q2 (o := j * t.size + c) (by omega)
  refine ⟨_, hr, ?_⟩
  have hag := setRow_ag w b (cur.toList.take (j * t.size + c) ++ vs ++ cur.toList.drop (j * t.size + c + vs.length)).toArray (v := hd m) (by rw [hb]; rfl)
  refine H.set hm hag (by simp [Ob.refs]) ?_
  have ht : Tr (Us U0 st.ob.length hd) w (Us U0 st.ob.length hd) (w.setRow b (cur.toList.take (j * t.size + c) ++ vs ++ cur.toList.drop (j * t.size + c + vs.length)).toArray) := Tr.of hag (fun b _ hb => .inr ⟨m, hm, hb⟩) (fun _ _ h => h)
  have hdl : ds = ((cur.toList.take (xs.length * t.size)).drop (j * t.size)).take t.size := by
    apply List.ext_getElem?
    intro q
    rcases Nat.lt_or_ge q t.size with h | h
    · rw [← q7 q h, List.getElem?_take, if_pos h, List.getElem?_drop, List.getElem?_take, if_pos (by omega)]
      simp
    · rw [List.getElem?_eq_none (by rw [ICs.length q6]; exact h), List.getElem?_eq_none (by rw [List.length_take]; omega)]
  have hnew : (cur.toList.take (j * t.size + c) ++ vs ++ cur.toList.drop (j * t.size + c + vs.length)).take (xs.length * t.size) = (cur.toList.take (xs.length * t.size)).take (j * t.size) ++ (ds.take c ++ vs ++ ds.drop (c + vs.length)) ++ (cur.toList.take (xs.length * t.size)).drop (j * t.size + t.size) := by
    rw [splice_take _ _ _ _ (by omega) (by simp; omega)]
    exact splice_elem _ ds vs j c t.size hdl (by omega) (by rw [List.length_take]; simp; omega)
  have hlen : (xs.set j z).length = xs.length := List.length_set
  refine ⟨_, ⟨?_, .inr ⟨b, cap, _, by rw [hb, hlen, ql, qc], ?_, setRow_heap w b cur _ e (0, 0) q2, by rw [hlen]; exact q4, q5, ?_, by rw [hlen]⟩⟩, ?_⟩
  · simp only [hlen, List.length_take, List.length_append, List.length_drop, Array.length_toList]
    omega
  · obtain ⟨_, h2 | ⟨g', _, _, e1, e2, _⟩⟩ := hown
    · rw [hb] at h2; simp at h2
    · rw [hb] at e1
      injection e1 with e1
      injection e1 with e1
      injection e1 with e1
      rw [e1]
      exact e2
  · simp only [List.size_toArray, List.length_append, List.length_take, List.length_drop, Array.length_toList]
    omega
  · simp only [hnew]
    rw [← hvl] at k1
    exact (Els.set hz0 k1 q8 j hj).mono (fun _ _ q => ICs.tr ht q)
theorem Rel.hdrs (H : Rel ρ w0 U0 own fx hd0 st a w hd) : Hdrs st.ob hd := fun i e t xs hat => by
  have hi : i < st.ob.length := by
    rcases Nat.lt_or_ge i st.ob.length with q | q
    · exact q
    · rw [atn_out _ _ _ q] at hat; cases hat
  have hro := H.ob i hi
  rw [hat] at hro
  obtain ⟨cs, h1, _⟩ := hro
  exact (own_hdr h1).1
theorem all2_atn {S : A → Value → Prop} : ∀ {l : List A} {vs : List Value}, All2 S l vs → vs.length = l.length ∧ ∀ i, i < l.length → ∃ x, vs[i]? = some x ∧ S (atn .un l i) x
  | [], [], _ => ⟨rfl, fun i h => by simp at h⟩
  | [], _ :: _, h => h.elim
  | _ :: _, [], h => h.elim
  | x :: l, v :: vs, h => by
    obtain ⟨h1, h2⟩ := all2_atn h.2
    refine ⟨by simp [h1], fun i hi => ?_⟩
    cases i with
    | zero => exact ⟨v, rfl, h.1⟩
    | succ i =>
      obtain ⟨x, q1, q2⟩ := h2 i (by simpa using hi)
      exact ⟨x, by simpa using q1, q2⟩
theorem scat_all (U : Nat → Prop) (w : World) (hd : Nat → Value) : ∀ {t : T} {cs : List Value} {x : t.den}, ICs ρ U w t cs x → All2 (fun x v => v.oneCell' = true ∧ RA ρ U w hd x v ∧ x.refs = []) (scat t x) cs
  | .int k, cs, x, h => by cases h; exact ⟨⟨rfl, ⟨_, rfl, rfl⟩, rfl⟩, trivial⟩
  | .bool, cs, x, h => by cases h; exact ⟨⟨rfl, ⟨_, rfl, rfl⟩, rfl⟩, trivial⟩
  | .flt, cs, x, h => by cases h; exact ⟨⟨rfl, ⟨_, rfl, rfl⟩, rfl⟩, trivial⟩
  | .list t, cs, x, h => by
    obtain ⟨v, rfl, _, h1⟩ := ICs.one rfl h
    exact ⟨⟨h1, ⟨_, rfl, h⟩, rfl⟩, trivial⟩
  | .pair a b, cs, x, ⟨c, d, e, h1, h2⟩ => by rw [e]; exact all2_app (scat_all U w hd h1) (scat_all U w hd h2)
  | .obj n, cs, x, h => by
    obtain ⟨v, rfl, _, h1⟩ := ICs.one rfl h
    exact ⟨⟨h1, ⟨_, rfl, h⟩, rfl⟩, trivial⟩
  | .ptr n, cs, x, h => by
    obtain ⟨v, rfl, _, h1⟩ := ICs.one rfl h
    exact ⟨⟨h1, ⟨_, rfl, h⟩, rfl⟩, trivial⟩
  | .one t, cs, x, h => scat_all U w hd (t := t) (cs := cs) (x := x) h
theorem scat_refs : ∀ (t : T) (x : t.den), ∀ y ∈ scat t x, y.refs = []
  | .int k, x, y, h => by rw [List.mem_singleton.1 h]; rfl
  | .bool, x, y, h => by rw [List.mem_singleton.1 h]; rfl
  | .flt, x, y, h => by rw [List.mem_singleton.1 h]; rfl
  | .list t, x, y, h => by rw [List.mem_singleton.1 h]; rfl
  | .obj n, x, y, h => by rw [List.mem_singleton.1 h]; rfl
  | .ptr t, x, y, h => by rw [List.mem_singleton.1 h]; rfl
  | .one t, x, y, h => scat_refs t x y h
  | .pair a b, x, y, h => (List.mem_append.1 h).elim (scat_refs a x.1 y) (scat_refs b x.2 y)
/-- A store of a whole struct into a struct variable. -/
theorem store_whole (ok : TabOk P tab) (H : Rel ρ w0 U0 own fx hd0 st a w hd) {id : TypeId} {i : TI} (hf : tab.find id = some i) {m : Nat} {e : TypeId} {l : List A} (hat : atn .gone st.ob m = .cells e l) (hl : l.length = i.t.size) {b : Nat} (hb : hd m = .pointer (some ⟨b, 0, none⟩))
    {y : i.t.den} {v : Value} (hx : IRd ρ (Us U0 st.ob.length hd) w i.t v y) :
    ∃ w', (Instr.storeAt id (.pointer (some ⟨b, 0, none⟩)) v).run P w = .ok () w' ∧ Rel ρ w0 U0 own fx hd0 ⟨st.tm, setn (.cells e (scat i.t y)) st.ob m⟩ a w' hd := by
  have hm : m < st.ob.length := by
    rcases Nat.lt_or_ge m st.ob.length with q | q
    · exact q
    · rw [atn_out _ _ _ q] at hat; cases hat
  have hro := H.ob m hm
  rw [hat] at hro
  obtain ⟨b', vs, q1, q2, q3, q4, q5⟩ := hro
  rw [hb] at q1
  injection q1 with q1
  injection q1 with q1
  injection q1 with q1
  subst q1
  obtain ⟨cs, rfl, hcs⟩ := hx
  have hcl := ICs.length hcs
  have hr := storeVar_run ok hf (vs := cs) (pack_cs hcs) hcl (ICs.ones hcs) q3 (o := 0) (by simp; omega)
  refine ⟨_, hr, ?_⟩
  have e0 : (vs.toArray.toList.take 0 ++ cs ++ vs.toArray.toList.drop (0 + cs.length)) = cs := by
    simp
    omega
  rw [e0]
  have hag := setRow_ag w b cs.toArray (v := hd m) (by rw [hb]; rfl)
  have ht : Tr (Us U0 st.ob.length hd) w (Us U0 st.ob.length hd) (w.setRow b cs.toArray) := Tr.of hag (fun b _ hb => .inr ⟨m, hm, hb⟩) (fun _ _ h => h)
  obtain ⟨k1, k2⟩ := all2_atn (scat_all (ρ := ρ) (Us U0 st.ob.length hd) (w.setRow b cs.toArray) hd (ICs.tr ht hcs))
  refine H.set hm hag (fun j hj => ?_) ⟨b, cs, hb, q2, ?_, k1, fun q hq => ?_⟩
  · obtain ⟨z, hz, hjz⟩ := List.mem_flatMap.1 hj
    rw [scat_refs _ _ z hz] at hjz
    cases hjz
  · exact setRow_heap w b vs.toArray cs.toArray e (0, 0) q3
  · obtain ⟨x, g1, g2, g3, _⟩ := k2 q hq
    exact ⟨x, g1, g2, g3⟩
theorem listA_all {U : Nat → Prop} {w : World} {hd : Nat → Value} : ∀ {a : A} {vs : List Value}, isTup a = true → RA ρ U w hd a (.tuple vs.toArray) → (∀ x ∈ vs, x.oneCell' = true) → All2 (fun x v => v.oneCell' = true ∧ RA ρ U w hd x v) (listA a) vs
  | .tnil, vs, _, h, _ => by
    have : vs = [] := by
      have h' : Value.tuple vs.toArray = .tuple #[] := h
      injection h' with h'
      simpa using congrArg Array.toList h'
    subst this
    trivial
  | .tcons x b, vs, ht, ⟨y, ys, e, h1, h2⟩, hv => by
    have : vs = y :: ys := by
      injection e with e
      simpa using congrArg Array.toList e
    subst this
    exact ⟨⟨hv y (by simp), h1⟩, listA_all (a := b) ht h2 (fun x hx => hv x (by simp [hx]))⟩
theorem listA_refs : ∀ {a : A} {j : Nat}, j ∈ (listA a).flatMap A.refs → j ∈ a.refs
  | .tcons x b, j, h => by
    simp only [listA, List.flatMap_cons, List.mem_append] at h
    simp only [A.refs, List.mem_append]
    exact h.imp id (listA_refs (a := b))
  | .un, _, h => by simp [listA] at h
  | .und, _, h => by simp [listA] at h
  | .v _ _, _, h => by simp [listA] at h
  | .nls, _, h => by simp [listA] at h
  | .nlp, _, h => by simp [listA] at h
  | .row _, _, h => by simp [listA] at h
  | .cut _ _ _, _, h => by simp [listA] at h
  | .adr _ _ _ _ _, _, h => by simp [listA] at h
  | .ref _ _, _, h => by simp [listA] at h
  | .box _ _, _, h => by simp [listA] at h
  | .tnil, _, h => by simp [listA] at h
  | .str _, _, h => by simp [listA] at h
/-- A store of a whole struct, rows among its cells, into a struct variable. -/
theorem store_str (ok : TabOk P tab) (H : Rel ρ w0 U0 own fx hd0 st a w hd) {id : TypeId} {i : TI} (hf : tab.find id = some i) {m : Nat} {e : TypeId} {l : List A} (hat : atn .gone st.ob m = .cells e l) (hl : l.length = i.t.size) {b : Nat} (hb : hd m = .pointer (some ⟨b, 0, none⟩))
    {y : A} {v : Value} (ht : isTup y = true) (hyl : (listA y).length = l.length) (hx : RA ρ (Us U0 st.ob.length hd) w hd (.str y) v) (hyr : ∀ j ∈ y.refs, j < st.ob.length) :
    ∃ w', (Instr.storeAt id (.pointer (some ⟨b, 0, none⟩)) v).run P w = .ok () w' ∧ Rel ρ w0 U0 own fx hd0 ⟨st.tm, setn (.cells e (listA y)) st.ob m⟩ a w' hd := by
  have hm : m < st.ob.length := by
    rcases Nat.lt_or_ge m st.ob.length with q | q
    · exact q
    · rw [atn_out _ _ _ q] at hat; cases hat
  have hro := H.ob m hm
  rw [hat] at hro
  obtain ⟨b', vs, q1, q2, q3, q4, q5⟩ := hro
  rw [hb] at q1
  injection q1 with q1
  injection q1 with q1
  injection q1 with q1
  subst q1
  obtain ⟨cs, rfl, hone, hcs⟩ := hx
  obtain ⟨k1, k2⟩ := all2_atn (listA_all ht hcs hone)
  have hr := storeVar_run ok hf (vs := cs) (v := .agg cs.toArray) rfl (by omega) hone q3 (o := 0) (by simp; omega)
  refine ⟨_, hr, ?_⟩
  have e0 : (vs.toArray.toList.take 0 ++ cs ++ vs.toArray.toList.drop (0 + cs.length)) = cs := by
    simp
    omega
  rw [e0]
  have hag := setRow_ag w b cs.toArray (v := hd m) (by rw [hb]; rfl)
  have htr : Tr (Us U0 st.ob.length hd) w (Us U0 st.ob.length hd) (w.setRow b cs.toArray) := Tr.of hag (fun b _ hb => .inr ⟨m, hm, hb⟩) (fun _ _ h => h)
  refine H.set hm hag (fun j hj => hyr j (listA_refs hj)) ⟨b, cs, hb, q2, ?_, k1, fun q hq => ?_⟩
  · exact setRow_heap w b vs.toArray cs.toArray e (0, 0) q3
  · obtain ⟨x, g1, g2, g3⟩ := k2 q hq
    exact ⟨x, g1, g2, RA.tr htr (fun _ _ => rfl) g3⟩
/-- A store into a cell of a struct variable. -/
theorem store_box (ok : TabOk P tab) (H : Rel ρ w0 U0 own fx hd0 st a w hd) {id : TypeId} {i : TI} (hf : tab.find id = some i) (hp : i.t.isPair = false) {m c : Nat} {e : TypeId} {l : List A} (hat : atn .gone st.ob m = .cells e l) (hc : c < l.length) {b : Nat} (hb : hd m = .pointer (some ⟨b, 0, none⟩))
    {x : A} {v : Value} (hx : RA ρ (Us U0 st.ob.length hd) w hd x v) (hone : v.oneCell' = true) (hxr : ∀ j ∈ x.refs, j < st.ob.length) :
    ∃ w', (Instr.storeAt id (.pointer (some ⟨b, c, none⟩)) v).run P w = .ok () w' ∧ Rel ρ w0 U0 own fx hd0 ⟨st.tm, setn (.cells e (setn x l c)) st.ob m⟩ a w' hd := by
  have hm : m < st.ob.length := by
    rcases Nat.lt_or_ge m st.ob.length with q | q
    · exact q
    · rw [atn_out _ _ _ q] at hat; cases hat
  have hro := H.ob m hm
  rw [hat] at hro
  obtain ⟨b', vs, q1, q2, q3, q4, q5⟩ := hro
  rw [hb] at q1
  injection q1 with q1
  injection q1 with q1
  injection q1 with q1
  subst q1
  have hr := storeVar_run ok hf (vs := [v]) (by rw [one_cells hone]) (by rw [T.size_one _ hp]; rfl) (by simpa using hone) q3 (o := c) (by simp; omega)
  refine ⟨_, hr, ?_⟩
  have hag := setRow_ag w b (vs.toArray.toList.take c ++ [v] ++ vs.toArray.toList.drop (c + 1)).toArray (v := hd m) (by rw [hb]; rfl)
  have ht : Tr (Us U0 st.ob.length hd) w (Us U0 st.ob.length hd) (w.setRow b (vs.toArray.toList.take c ++ [v] ++ vs.toArray.toList.drop (c + 1)).toArray) := Tr.of hag (fun b _ hb => .inr ⟨m, hm, hb⟩) (fun _ _ h => h)
  refine H.set hm hag (fun j hj => ?_) ⟨b, vs.set c v, hb, q2, ?_, by rw [List.length_set, length_setn]; exact q4, fun q hq => ?_⟩
  · obtain ⟨y, hy, hjy⟩ := List.mem_flatMap.1 hj
    have hmem : ∀ (l : List A) (c : Nat), y ∈ setn x l c → y = x ∨ y ∈ l := by
      intro l
      induction l with
      | nil => intro c h; simp [setn] at h
      | cons z l ih =>
        intro c h
        cases c with
        | zero => simp only [setn, List.mem_cons] at h; rcases h with h | h
                  · exact .inl h
                  · exact .inr (List.mem_cons_of_mem _ h)
        | succ c =>
          simp only [setn, List.mem_cons] at h
          rcases h with h | h
          · exact .inr (by rw [h]; simp)
          · rcases ih c h with h | h
            · exact .inl h
            · exact .inr (List.mem_cons_of_mem _ h)
    rcases hmem l c hy with rfl | h
    · exact hxr j hjy
    · exact H.wo m j (by rw [hat]; exact List.mem_flatMap.2 ⟨y, h, hjy⟩)
  · have := setRow_heap w b vs.toArray (vs.toArray.toList.take c ++ [v] ++ vs.toArray.toList.drop (c + 1)).toArray e (0, 0) q3
    rw [this]
    congr 3
    rw [List.set_eq_take_append_cons_drop, if_pos (by omega)]
    simp
  · rw [length_setn] at hq
    rw [atn_setn]
    by_cases e' : c = q
    · subst e'
      rw [if_pos ⟨rfl, hc⟩]
      exact ⟨v, by rw [List.getElem?_set_self (by omega)], hone, RA.tr ht (fun _ _ => rfl) hx⟩
    · rw [if_neg (fun h => e' h.1), List.getElem?_set_ne e']
      obtain ⟨y, h1, h2, h3⟩ := q5 q hq
      exact ⟨y, h1, h2, RA.tr ht (fun _ _ => rfl) h3⟩
theorem thaw_row {st : St} {x : A} {m : Nat} {e : TypeId} {t : T} {xs : List t.den} (hrf : ∀ j ∈ x.refs, j < st.ob.length) (hat : atn Ob.gone (x.thaw st).ob m = .row e t xs) : m ∉ x.rowOf := fun hmem => by
  have main : m < st.ob.length → x.thaw st = st.frz m → False := fun hlt hth => by
    rw [hth] at hat
    simp only [St.frz] at hat
    cases hq : atn Ob.gone st.ob m with
    | row e' t' xs' =>
      rw [hq] at hat
      simp only at hat
      rw [atn_setn, if_pos ⟨rfl, by rw [length_mapn]; exact hlt⟩] at hat
      cases hat
    | cells e' l' => rw [hq] at hat; simp only at hat; rw [hq] at hat; cases hat
    | gone => rw [hq] at hat; simp only at hat; rw [hq] at hat; cases hat
  cases x with
  | row i =>
    have : m = i := by simpa [A.rowOf] using hmem
    subst this
    exact main (hrf m (by simp [A.refs])) rfl
  | cut i n f =>
    have : m = i := by simpa [A.rowOf] using hmem
    subst this
    exact main (hrf m (by simp [A.refs])) rfl
  | _ => simp [A.rowOf] at hmem
theorem Rel.refs (H : Rel ρ w0 U0 own fx hd0 st a w hd) (y : Operand) : ∀ j ∈ (ev st y).refs, j < st.ob.length := fun j hj => by
  cases y with
  | tmp q => exact H.wt q j hj
  | const v =>
    simp only [ev] at hj
    unfold lit at hj
    split at hj <;> simp [A.refs] at hj
  | global g => simp [ev, A.refs] at hj
  | func g => simp [ev, A.refs] at hj
/-- Any store. -/
theorem store_sound {R : Type} {r : R} {k : St → Option R} (ok : TabOk P tab) (H : Rel ρ w0 U0 own fx hd0 st a w hd) {t : TypeId} {ad x : Operand} (h : storeZ own tab t (ev st ad) (ev st x) st k = some r) :
    ∃ st' w' hd', k st' = some r ∧ (Instr.storeAt t (a.eval ad) (a.eval x)).run P w = .ok () w' ∧ Rel ρ w0 U0 own fx hd0 st' a w' hd' := by
  have ha := H.ev_ ad
  have hx := H.ev_ x
  have hrf := H.refs
  unfold storeZ at h
  split at h
  · rename_i i m j c s u hf hadr
    rw [hadr] at ha
    split at h
    · rename_i hu
      obtain ⟨rfl, hth⟩ := hu
      split at h
      · rename_i y st1 hy
        obtain ⟨hd', H', hlen, hne, hus, hval⟩ := H.thaw hth (hrf x)
        split at h
        · rename_i e w1 xs hat
          split at h
          · rename_i hs
            subst hs
            split at h
            · rename_i z hz
              split at h
              · rename_i hj
                obtain ⟨b, l, cp, e1, e2, e3⟩ := ha
                have hmr : m ∉ (ev st x).rowOf := thaw_row (hrf x) hat
                have hb : hd' m = .slice (some ⟨b, 0, none⟩) l cp := by rw [hne m hmr]; exact e1
                have hv := hval hy hx
                rw [← hlen] at hv
                obtain ⟨w', r1, r2⟩ := store_row ok H' hf hat hj hz hb hv
                rw [e3]
                exact ⟨_, w', hd', h, r1, r2⟩
              · cases h
            · cases h
          · cases h
        · cases h
      · cases h
    · cases h
  · rename_i i m c hf hadr
    rw [hadr] at ha
    split at h
    · rename_i e l hat
      split at h
      · rename_i hcond
        obtain ⟨hp, hc, hone⟩ := hcond
        obtain ⟨b, e1, e2⟩ := ha
        have h1 := oneB_cell hone hx (fun q hq => by
          rw [hq] at hx
          have hlt : q < st.ob.length := hrf x q (by rw [hq]; simp [A.refs])
          have hro := H.ob q hlt
          rw [show a.eval x = hd q from hx]
          cases hq2 : atn Ob.gone st.ob q with
          | row e2 t2 xs2 =>
            rw [hq2] at hro
            obtain ⟨cs, h1, _⟩ := hro
            obtain ⟨a1, c1, e3, _⟩ := (own_hdr h1).1.form
            rw [e3]; rfl
          | cells e2 l2 =>
            rw [hq2] at hro
            obtain ⟨b1, vs1, e3, _⟩ := hro
            rw [e3]; rfl
          | gone =>
            rw [hq2] at hro
            rw [show hd q = nilV from hro]; rfl)
        obtain ⟨w', r1, r2⟩ := store_box ok H hf hp hat hc e1 hx h1 (hrf x)
        rw [e2]
        exact ⟨_, w', hd, h, r1, r2⟩
      · split at h
        · rename_i hcond
          obtain ⟨hp, rfl, hl⟩ := hcond
          split at h
          · rename_i t' y hxe
            split at h
            · rename_i ht
              subst ht
              rw [hxe] at hx
              obtain ⟨b, e1, e2⟩ := ha
              obtain ⟨w', r1, r2⟩ := store_whole ok H hf hat hl e1 hx
              rw [e2]
              exact ⟨_, w', hd, h, r1, r2⟩
            · cases h
          · rename_i y hxe
            split at h
            · rename_i hty
              rw [hxe] at hx
              have hyr := hrf x
              rw [hxe] at hyr
              obtain ⟨b, e1, e2⟩ := ha
              obtain ⟨w', r1, r2⟩ := store_str ok H hf hat hl e1 hty.1 hty.2 hx hyr
              rw [e2]
              exact ⟨_, w', hd, h, r1, r2⟩
            · cases h
          · cases h
        · cases h
    · cases h
  · cases h
/-- What leads on to nothing hangs on no memory. -/
theorem ics_flat {U U' : Nat → Prop} {w w' : World} : ∀ {t : T} {cs : List Value} {x : t.den}, t.led = false → ICs ρ U w t cs x → ICs ρ U' w' t cs x
  | .int _, _, _, _, h => h
  | .bool, _, _, _, h => h
  | .flt, _, _, _, h => h
  | .list _, _, _, h, _ => by simp [T.led] at h
  | .pair a b, _, _, hl, ⟨c, d, h, h1, h2⟩ => by
    simp only [T.led, Bool.or_eq_false_iff] at hl
    exact ⟨c, d, h, ics_flat hl.1 h1, ics_flat hl.2 h2⟩
  | .obj _, _, _, h, _ => by simp [T.led] at h
  | .ptr _, _, _, h, _ => by simp [T.led] at h
  | .one t, cs, x, hl, h => ics_flat (t := t) (cs := cs) (x := x) hl h
/-- What is appended: its cells. -/
def Src (ρ : Obs) (U : Nat → Prop) (w : World) (t : T) (v : Value) (ys : List t.den) : Prop := ∃ A c cs, v = .slice A ys.length c ∧ Els (ICs ρ U w t) cs ys ∧ (0 < ys.length → ∃ b off, A = some ⟨b, off, none⟩ ∧ ∀ j, j < cs.length → w.cell? ⟨b, off + j, none⟩ = cs[j]?)
theorem src_led {t : T} {v : Value} {ys : List t.den} (h : IRd ρ U w (.list t) v ys) : Src ρ U w t v ys := by
  obtain ⟨_, rfl, A, c, ds, rfl, _, _, h3, h4⟩ := h
  refine ⟨A, c, ds, rfl, h3, fun hp => ?_⟩
  obtain ⟨b, off, e, h5⟩ := h4 hp
  exact ⟨b, off, e, h5 w (Ag.refl _ _)⟩
theorem src_flat (H : Rel ρ w0 U0 own fx hd0 st a w hd) {t : T} (ht : t.led = false) {x : A} {v : Value} {ys : List t.den} (h : A.toV st.ob (.list t) x = some ys) (hx : RA ρ (Us U0 st.ob.length hd) w hd x v) : Src ρ (Us U0 st.ob.length hd) w t v ys := by
  have h1 := toV_ird H h hx (U' := fun b => Us U0 st.ob.length hd b ∧ ∀ i ∈ x.rowOf, blk (hd i) ≠ some b) (fun b _ hb => hb.1) (fun i hi b hb hn => hn.2 i hi hb)
  obtain ⟨A, c, cs, e, h2, h3⟩ := src_led h1
  exact ⟨A, c, cs, e, h2.mono (fun _ _ q => ics_flat ht q), h3⟩
theorem append_nothing {t e : TypeId} (ok : TabOk P tab) {i : TI} (h : elemZ tab t = some (e, i)) {v : Value} {n : Nat} (hv : Hdr v n) (c : Nat) (ty : TypeId) (w : World) : (Builtin.append_ #[t, t] ty #[v, .slice none 0 c]).run P w = .ok v w := by
  obtain ⟨h1, h2⟩ := elem_ok ok h
  have h3 := sizeOf_run ok h2 w
  obtain ⟨a, cap, rfl, hle⟩ := hv.form
  unfold Builtin.append_
  simp [run_underlying h1, go_sem]
  rw [h3]
  simp [Builtin.lenOf, Builtin.firstCells, hle, go_sem]
  cases a <;> simp [storeCells, go_sem]
theorem append_run {t e : TypeId} (ok : TabOk P tab) {i : TI} (h : elemZ tab t = some (e, i)) (base : Nat) {v : Value} {n : Nat} {cs0 : List Value} (ho : w.ownsRow base e i.t.size v n cs0) (hbase : base ≤ w.heap.size) {u : Value} {ys : List i.t.den} (hu : Src ρ U w i.t u ys)
    (hb : (n + ys.length) * i.bytes ≤ 140737488355328) (ty : TypeId) : ∃ cs v' w', Els (ICs ρ U w i.t) cs ys ∧ (Builtin.append_ #[t, t] ty #[v, u]).run P w = .ok v' w' ∧ w'.ownsRow base e i.t.size v' (n + ys.length) (cs0 ++ cs) ∧ w.grownBy w' v.ownBlock ∧ (v'.ownBlock = v.ownBlock ∨ v'.ownBlock = some w.heap.size) := by
  obtain ⟨h1, h2⟩ := elem_ok ok h
  obtain ⟨inf, i1, i2, i3, i4, i5⟩ := ok.info _ _ h2
  obtain ⟨A, c, cs, rfl, hels, hcell⟩ := hu
  have hz : ∀ c x, ICs ρ U w i.t c x → c.length = i.t.size := fun c x q => ICs.length q
  have hlen := Els.length hz hels
  have hone : ∀ u ∈ cs, u.oneCell' = true := by
    clear hcell hlen hb
    induction ys generalizing cs with
    | nil => cases hels; simp
    | cons y ys ih =>
      obtain ⟨c1, r1, rfl, q1, q2⟩ := hels
      intro u hu
      rw [List.mem_append] at hu
      rcases hu with hu | hu
      · exact ICs.ones q1 u hu
      · exact ih _ q2 u hu
  have hpc : (pack i.t (zeroC i.t)).cells.size = i.t.size := by
    rw [pack_cs (zero_ics (ρ := ⟨fun _ _ _ _ => True, fun _ => False⟩) (U := fun _ => True) (w := w) i.t)]
    simp [zero_len]
  have hml : n + ys.length ≤ 140737488355328 := Nat.le_trans (Nat.le_mul_of_pos_right _ i4) hb
  cases A with
  | none =>
    have h0 : ys.length = 0 := by
      rcases Nat.eq_zero_or_pos ys.length with h | h
      · exact h
      · obtain ⟨_, _, e, _⟩ := hcell h; cases e
    have hcs : cs = [] := List.eq_nil_of_length_eq_zero (by rw [hlen, h0]; simp)
    subst hcs
    refine ⟨[], v, w, hels, ?_, by rw [h0]; simpa using ho, ⟨rfl, rfl, rfl, Nat.le_refl _, fun _ _ _ => rfl⟩, .inl rfl⟩
    rw [h0]
    exact append_nothing ok h (own_hdr ho).1 c ty w
  | some ad =>
    have hnews : ∀ j u, cs[j]? = some u → w.cell? (ad.add j) = some u := fun j u hj => by
      have hj' : j < cs.length := (List.getElem?_eq_some_iff.1 hj).1
      have hp : 0 < ys.length := by
        rcases Nat.eq_zero_or_pos ys.length with h | h
        · rw [hlen, h] at hj'; simp at hj'
        · exact h
      obtain ⟨b, off, e, q⟩ := hcell hp
      injection e with e
      subst e
      have := q j hj'
      rw [hj] at this
      rw [← this]
      congr 1
      unfold Addr.add
      split
      · rename_i e; subst e; rfl
      · rfl
    obtain ⟨v', w', r1, r2, r3, _, r4⟩ := run_append_own_at (P := P) w base t ty e inf _ i.t.size i.bytes h1 i1 i5 i2 i3 hpc (T.size_pos _) v n cs0 ho ad ys.length c cs hlen hnews hone (by unfold maxLen; omega) hb hbase
    exact ⟨cs, v', w', hels, r1, r2, r3, r4⟩
theorem row_lt {st : St} {m : Nat} {e : TypeId} {t : T} {xs : List t.den} (hat : atn Ob.gone st.ob m = .row e t xs) : m < st.ob.length := by
  rcases Nat.lt_or_ge m st.ob.length with q | q
  · exact q
  · rw [atn_out _ _ _ q] at hat; cases hat
theorem blk_own {v : Value} {n : Nat} (h : Hdr v n) : blk v = v.ownBlock := by
  rcases h with ⟨rfl, _⟩ | ⟨g, c, rfl, _⟩ <;> rfl
/-- An append, its second operand being known. -/
theorem append_core {R : Type} {r : R} {k : St → Option R} (ok : TabOk P tab) (H : Rel ρ w0 U0 own fx hd0 st a w hd) {t e : TypeId} {i : TI} (hel : elemZ tab t = some (e, i)) {x : A} {vx vy : Value} {ys : List i.t.den} {d : Option Tmp} (h : appC own e i ys d st k x = some r)
    (hx : ∀ m e' u xs, x = .row m → atn Ob.gone st.ob m = .row e' u xs → vx = hd m) (hnl : x = .nls → vx = .slice none 0 0) (hy : Src ρ (Us U0 st.ob.length hd) w i.t vy ys) (ty : TypeId) :
    ∃ st' v' w' hd', k st' = some r ∧ (Builtin.append_ #[t, t] ty #[vx, vy]).run P w = .ok v' w' ∧ Rel ρ w0 U0 own fx hd0 st' (a.put d v') w' hd' := by
  unfold appC at h
  split at h
  · split at h
    · rename_i hb
      rw [hnl rfl]
      obtain ⟨cs, v', w', h1, h2, h3, h4, h5⟩ := append_run ok hel w.heap.size (World.ownsRow_nil w w.heap.size e i.t.size) (Nat.le_refl _) hy (by rw [Nat.zero_add]; exact hb) ty
      rw [Nat.zero_add, List.nil_append] at h3
      have hag : Ag (fun _ => False) w w' := Ag.of_grown h4 (fun b hb => by simp [Value.ownBlock] at hb)
      exact ⟨_, v', w', _, h, h2, H.newRow hag h3 h1 d⟩
    · cases h
  · rename_i m
    split at h
    · rename_i e' u xs hat
      split at h
      · rename_i hh
        obtain ⟨rfl, rfl, ho⟩ := hh
        split at h
        · rename_i hb
          have hm := row_lt hat
          have hro := H.ob m hm
          rw [hat, if_neg (by omega)] at hro
          obtain ⟨cs0, q1, q2⟩ := hro
          rw [hx m _ _ _ rfl hat]
          obtain ⟨cs, v', w', h1, h2, h3, h4, h5⟩ := append_run ok hel w0.heap.size q1 H.ag.size hy hb ty
          have hbl : blk (hd m) = (hd m).ownBlock := blk_own (own_hdr q1).1
          have hbl' : blk v' = v'.ownBlock := blk_own (own_hdr h3).1
          have hag : Ag (fun b => blk (hd m) = some b) w w' := Ag.of_grown h4 (fun b hb => by rw [hbl]; exact hb)
          have hbb : ∀ b, blk v' = some b → blk (hd m) = some b ∨ w.heap.size ≤ b := fun b hb => by
            rw [hbl'] at hb
            rcases h5 with h5 | h5
            · left; rw [hbl, ← h5]; exact hb
            · right; rw [h5] at hb; injection hb with hb; omega
          have hU := us_same (U0 := U0) (n := st.ob.length) hbb
          have ht : Tr (Us U0 st.ob.length hd) w (Us U0 st.ob.length (upd hd m v')) w' := Tr.of hag (fun b _ hb => .inr ⟨m, hm, hb⟩) hU
          have H2 := H.turn hm hag (o := .gone) (o' := .row e' i.t (xs ++ ys)) (v' := v') (upd hd m v') (fun j hj => upd_ne hj) (upd_same _ _ _) (fun hlt _ => by omega) hbb (by simp [Ob.refs]) (fun e t xs heq => by cases heq)
            ⟨cs0 ++ cs, by rw [if_neg (by omega), List.length_append]; exact h3, (q2.append h1).mono (fun _ _ q => ICs.tr ht q)⟩
          have H3 := H2.put (x := .row m) (v := v') (by simp [RA, upd_same]) (by simp [A.refs, length_setn, length_mapn, hm]) d
          exact ⟨_, v', w', _, h, h2, H3⟩
        · cases h
      · cases h
    · cases h
  · cases h
theorem append_sound {R : Type} {r : R} {k : St → Option R} (ok : TabOk P tab) (H : Rel ρ w0 U0 own fx hd0 st a w hd) {t : TypeId} {x y : Operand} {d : Option Tmp} (h : appendZ own tab t (ev st x) (ev st y) d st k = some r) (ty : TypeId) :
    ∃ st' v' w' hd', k st' = some r ∧ (Builtin.append_ #[t, t] ty #[a.eval x, a.eval y]).run P w = .ok v' w' ∧ Rel ρ w0 U0 own fx hd0 st' (a.put d v') w' hd' := by
  have hex := H.ev_ x
  have hey := H.ev_ y
  unfold appendZ at h
  split at h
  · rename_i e i hel
    split at h
    · rename_i ys hv
      split at h
      · rename_i hled
        split at h
        · rename_i hth
          obtain ⟨hd', H', hlen, hne, hus, hval⟩ := H.thaw hth (H.refs y)
          have hir := hval hv hey
          rw [← hlen] at hir
          exact append_core ok H' hel h (fun m e' u xs hm hat => by rw [hne m (thaw_row (H.refs y) hat)]; rw [hm] at hex; exact hex) (fun hm => by rw [hm] at hex; exact hex) (src_led hir) ty
        · cases h
      · rename_i hled
        exact append_core ok H hel h (fun m _ _ _ hm _ => by rw [hm] at hex; exact hex) (fun hm => by rw [hm] at hex; exact hex) (src_flat H (by simpa using hled) hv hey) ty
    · cases h
  · cases h
end
end Go.Proofs.YthbojpaghbbnnaaDoor.Z
namespace Go.Proofs.YthbojpaghbbnnaaDoor.Z
open Go Go.RowKit
set_option linter.unusedVariables false
set_option linter.unusedSimpArgs false
section
variable {P : Program} {tab : Tab} {ρ : Obs} {U : Nat → Prop} {w : World} {hd : Nat → Value} {w0 : World} {U0 : Nat → Prop} {own : Nat} {fx : Nat → Bool} {hd0 : Nat → Value} {st : St} {a : Act}
/-- Some objects are other ones behind a step (ms: they may lie elsewhere), and there are more. -/
theorem Rel.jump (H : Rel ρ w0 U0 own fx hd0 st a w hd) {w' : World} {os ms : List Nat} (hms : ∀ i ∈ ms, i ∈ os) (hfix : ∀ i ∈ ms, i < own → fx i = false) (hag : Ag (fun b => ∃ i ∈ os, blk (hd i) = some b) w w') (hos : ∀ i ∈ os, i < st.ob.length) {ob' : List Ob} {hd' : Nat → Value} (hlen : st.ob.length ≤ ob'.length) (hhd : ∀ i, i < st.ob.length → i ∉ ms → hd' i = hd i)
    (hmv : ∀ i ∈ ms, ∀ b, blk (hd' i) = some b → blk (hd i) = some b ∨ w.heap.size ≤ b) (hft : ∀ i, ∀ j ∈ (atn .un st.tm i).refs, j ∉ ms) (hfo : ∀ i, i < st.ob.length → i ∉ os → ∀ j ∈ (atn .gone st.ob i).refs, j ∉ ms)
    (hsame : ∀ i, i < st.ob.length → i ∉ os → atn .gone ob' i = atn .gone st.ob i) (hnew : ∀ i, i < ob'.length → (i ∈ os ∨ st.ob.length ≤ i) → RO ρ (Us U0 ob'.length hd') w' hd' (if i < own then 0 else w0.heap.size) (atn .gone ob' i) (hd' i))
    (hfresh : ∀ i, st.ob.length ≤ i → i < ob'.length → ∀ b, blk (hd' i) = some b → w.heap.size ≤ b) (hdis : ∀ i j, i < ob'.length → j < ob'.length → (i ∈ ms ∨ st.ob.length ≤ i) → (j ∈ ms ∨ st.ob.length ≤ j) → i ≠ j → ∀ b, blk (hd' i) = some b → blk (hd' j) ≠ some b)
    (hrefs : ∀ i, (i ∈ os ∨ st.ob.length ≤ i) → ∀ j ∈ (atn .gone ob' i).refs, j < ob'.length) : Rel ρ w0 U0 own fx hd0 ⟨st.tm, ob'⟩ a w' hd' := by
  have hold : ∀ i, i < st.ob.length → ∀ b, blk (hd' i) = some b → blk (hd i) = some b ∨ w.heap.size ≤ b := fun i hi b hb => by
    by_cases hm : i ∈ ms
    · exact hmv i hm b hb
    · rw [hhd i hi hm] at hb; exact .inl hb
  have hU : ∀ b, b < w.heap.size → Us U0 ob'.length hd' b → Us U0 st.ob.length hd b := by
    rintro b hb (hu | ⟨i, hi, hib⟩)
    · exact .inl hu
    · rcases Nat.lt_or_ge i st.ob.length with h1 | h1
      · rcases hold i h1 b hib with h2 | h2
        · exact .inr ⟨i, h1, h2⟩
        · omega
      · have := hfresh i h1 hi b hib
        omega
  have ht : Tr (Us U0 st.ob.length hd) w (Us U0 ob'.length hd') w' := Tr.of hag (fun b _ ⟨i, hi, hb⟩ => .inr ⟨i, hos i hi, hb⟩) hU
  refine ⟨H.sz, H.df, fun i v hv => RA.tr ht (fun j hj => hhd j (H.wt i j hj) (hft i j hj)) (H.sl i v hv), fun i hi => ?_, fun i j hi hj hij b hbi hbj => ?_, fun i hi hf => ?_, fun i hi b hib => ?_, Nat.le_trans H.ow hlen, ?_, H.u0, fun i j hj => Nat.lt_of_lt_of_le (H.wt i j hj) hlen, fun i j hj => ?_⟩
  · by_cases hin : i ∈ os ∨ st.ob.length ≤ i
    · exact hnew i hi hin
    · have h1 : i < st.ob.length := Nat.lt_of_not_le (fun h => hin (.inr h))
      have h2 : i ∉ os := fun h => hin (.inl h)
      have h3 : i ∉ ms := fun h => h2 (hms i h)
      simp only
      rw [hsame i h1 h2, hhd i h1 h3]
      exact RO.tr ht (fun j hj => hhd j (H.wo i j hj) (hfo i h1 h2 j hj)) (fun b hb => hag.block b (H.lt h1 hb) (fun ⟨q, hq, hqb⟩ => H.ne i q h1 (hos q hq) (fun e => h2 (e ▸ hq)) b hb hqb)) (H.ob i h1)
  · have side : ∀ i j, i < ob'.length → j < st.ob.length → j ∉ ms → (i ∈ ms ∨ st.ob.length ≤ i) → i ≠ j → ∀ b, blk (hd' i) = some b → blk (hd' j) = some b → False := fun i j hi hj hjm hor hij b hbi hbj => by
      rw [hhd j hj hjm] at hbj
      have hlt := H.lt hj hbj
      rcases hor with hm | hge
      · rcases hmv i hm b hbi with h | h
        · exact H.ne i j (hos i (hms i hm)) hj hij b h hbj
        · omega
      · have := hfresh i hge hi b hbi
        omega
    by_cases si : i ∈ ms ∨ st.ob.length ≤ i
    · by_cases sj : j ∈ ms ∨ st.ob.length ≤ j
      · exact hdis i j hi hj si sj hij b hbi hbj
      · exact side i j hi (Nat.lt_of_not_le (fun h => sj (.inr h))) (fun h => sj (.inl h)) si hij b hbi hbj
    · by_cases sj : j ∈ ms ∨ st.ob.length ≤ j
      · exact side j i hj (Nat.lt_of_not_le (fun h => si (.inr h))) (fun h => si (.inl h)) sj (Ne.symm hij) b hbj hbi
      · have h1 : i < st.ob.length := Nat.lt_of_not_le (fun h => si (.inr h))
        have h2 : j < st.ob.length := Nat.lt_of_not_le (fun h => sj (.inr h))
        rw [hhd i h1 (fun h => si (.inl h))] at hbi
        rw [hhd j h2 (fun h => sj (.inl h))] at hbj
        exact H.ne i j h1 h2 hij b hbi hbj
  · rw [hhd i (Nat.lt_of_lt_of_le hi H.ow) (fun h => by have := hfix i h hi; rw [hf] at this; cases this)]
    exact H.keep i hi hf
  · rcases hold i (Nat.lt_of_lt_of_le hi H.ow) b hib with h | h
    · exact H.kp i hi b h
    · exact .inr (Nat.le_trans H.ag.size h)
  · refine ⟨hag.os.trans H.ag.os, hag.tape.trans H.ag.tape, hag.output.trans H.ag.output, Nat.le_trans H.ag.size hag.size, fun b hb hn => ?_⟩
    refine (hag.block b (Nat.lt_of_lt_of_le hb H.ag.size) (fun ⟨q, hq, hqb⟩ => ?_)).trans (H.ag.block b hb hn)
    rcases Nat.lt_or_ge q own with h1 | h1
    · rcases H.kp q h1 b hqb with h2 | h2
      · exact hn (.inr ⟨q, h1, h2⟩)
      · omega
    · have := H.ge (hos q hq) h1 hqb
      omega
  · by_cases hin : i ∈ os ∨ st.ob.length ≤ i
    · exact hrefs i hin j hj
    · have h1 : i < st.ob.length := Nat.lt_of_not_le (fun h => hin (.inr h))
      have h2 : i ∉ os := fun h => hin (.inl h)
      simp only at hj
      rw [hsame i h1 h2] at hj
      exact Nat.lt_of_lt_of_le (H.wo i j hj) hlen
def nOwn : List PM → Nat
  | [] => 0
  | .val _ :: l => nOwn l
  | .own _ _ :: l => nOwn l + 1
  | .bx _ fs :: l => nOwn l + (1 + fsN fs)
  | .nbx _ fs :: l => nOwn l + (1 + fsN fs)
  | .cutp _ _ :: l => nOwn l + 1
def fsFix : List Fd → List Bool
  | [] => []
  | .v _ :: l => fsFix l
  | .r _ _ mv :: l => (!mv) :: fsFix l
/-- Which of the objects that are handed over lie where they lay behind the call. -/
def fixL : List PM → List Bool
  | [] => []
  | .val _ :: l => fixL l
  | .own _ _ :: l => true :: fixL l
  | .bx _ fs :: l => true :: (fsFix fs ++ fixL l)
  | .nbx _ _ :: l => fixL l
  | .cutp _ _ :: l => true :: fixL l
def fxP (ps : List PM) (i : Nat) : Bool := atn true (fixL ps) i
def dl : {a b : List T} → Ds (a ++ b) → Ds a
  | [], _, _ => ()
  | _ :: _, _, d => (d.1, dl d.2)
def dr : {a b : List T} → Ds (a ++ b) → Ds b
  | [], _, d => d
  | _ :: _, _, d => dr d.2
/-- A struct and its rows: objects n, n + 1, .. -/
def BoxOk (ρ : Obs) (U : Nat → Prop) (w : World) (hd : Nat → Value) (B : Nat) (e : TypeId) (fs : List Fd) (x : (fsT fs).den) (n : Nat) : Prop :=
  RO ρ U w hd B (.cells e (fsA fs x (n + 1))) (hd n) ∧ ∀ q, q < fsN fs → RO ρ U w hd B (atn .gone (fsO fs x) q) (hd (n + 1 + q))
/-- The arguments of a call. -/
def ArgsOk (ρ : Obs) (U : Nat → Prop) (w : World) (hd : Nat → Value) : (ps : List PM) → Ds (ps.map PM.ty) → List Value → Nat → Prop
  | [], _, [], _ => True
  | .val t :: ps, d, v :: vs, n => IRd ρ U w t v d.1 ∧ ArgsOk ρ U w hd ps d.2 vs n
  | .own e t :: ps, d, v :: vs, n => v = hd n ∧ RO ρ U w hd 0 (.row e t d.1) v ∧ ArgsOk ρ U w hd ps d.2 vs (n + 1)
  | .bx e fs :: ps, d, v :: vs, n => v = hd n ∧ BoxOk ρ U w hd 0 e fs d.1 n ∧ ArgsOk ρ U w hd ps d.2 vs (n + (1 + fsN fs))
  | .cutp e t :: ps, d, v :: vs, n => RA ρ U w hd (.cut n (Int.toNat d.1.2) true) v ∧ RO ρ U w hd 0 (.row e t d.1.1) (hd n) ∧ ArgsOk ρ U w hd ps d.2 vs (n + 1)
  | _, _, _, _ => False
/-- What a call leaves in the objects that it was handed. -/
def MutsOk (ρ : Obs) (U : Nat → Prop) (w : World) (hd : Nat → Value) : (ps : List PM) → Ds (muts ps) → Nat → Prop
  | [], _, _ => True
  | .val _ :: ps, d, n => MutsOk ρ U w hd ps d n
  | .own e t :: ps, d, n => RO ρ U w hd 0 (.row e t d.1) (hd n) ∧ MutsOk ρ U w hd ps d.2 (n + 1)
  | .bx e fs :: ps, d, n => BoxOk ρ U w hd 0 e fs d.1 n ∧ MutsOk ρ U w hd ps d.2 (n + (1 + fsN fs))
  | .nbx _ fs :: ps, d, n => MutsOk ρ U w hd ps d (n + (1 + fsN fs))
  | .cutp e t :: ps, d, n => RO ρ U w hd 0 (.row e t d.1) (hd n) ∧ MutsOk ρ U w hd ps d.2 (n + 1)
def NbxOk (ρ : Obs) (U : Nat → Prop) (w : World) (hd : Nat → Value) (B : Nat) (e : TypeId) (fs : List Fd) (y : Option (fsT fs).den) (v : Value) (n : Nat) : Prop :=
  match y with
  | none => v = .pointer none ∧ ∀ q, q < 1 + fsN fs → hd (n + q) = nilV
  | some x => v = hd n ∧ BoxOk ρ U w hd B e fs x n
/-- The results of a call. -/
def RetsOk (ρ : Obs) (U : Nat → Prop) (w : World) (hd : Nat → Value) (B : Nat) : (rs : List PM) → Ds (rs.map PM.ty) → List Value → Nat → Prop
  | [], _, [], _ => True
  | .val t :: rs, d, v :: vs, n => IRd ρ U w t v d.1 ∧ RetsOk ρ U w hd B rs d.2 vs n
  | .own e t :: rs, d, v :: vs, n => v = hd n ∧ RO ρ U w hd B (.row e t d.1) v ∧ RetsOk ρ U w hd B rs d.2 vs (n + 1)
  | .nbx e fs :: rs, d, v :: vs, n => NbxOk ρ U w hd B e fs d.1 v n ∧ RetsOk ρ U w hd B rs d.2 vs (n + (1 + fsN fs))
  | .cutp e t :: rs, d, v :: vs, n => RA ρ U w hd (.cut n (Int.toNat d.1.2) true) v ∧ RO ρ U w hd B (.row e t d.1.1) (hd n) ∧ RetsOk ρ U w hd B rs d.2 vs (n + 1)
  | _, _, _, _ => False
def oneV : List Value → Value
  | [v] => v
  | l => .tuple l.toArray
/-- The blocks of the first n objects are pairwise other ones. -/
def Apart (n : Nat) (hd : Nat → Value) : Prop := ∀ i j, i < n → j < n → i ≠ j → ∀ b, blk (hd i) = some b → blk (hd j) ≠ some b
/-- A function of the program does what its plain function says. (U0: blocks that may turn while it is read; U1: blocks that may turn behind the call.) -/
def Sound (P : Program) (ρ : Obs) (f : FuncId) (s : Sig) : Prop := ∀ d : Ds (s.ps.map PM.ty), s.pre d = true → ∀ (w : World) (U0 U1 V : Nat → Prop) (hd0 : Nat → Value) (vs : List Value),
  (∀ b, U0 b → b < w.heap.size ∧ ∀ i, i < nOwn s.ps → blk (hd0 i) ≠ some b) → (∀ b, U1 b → b < w.heap.size ∧ ∀ i, i < nOwn s.ps → blk (hd0 i) ≠ some b) → (s.fresh = false → ∀ b, U1 b → U0 b) → Apart (nOwn s.ps) hd0 → KOk (ρ.on V) (Us U0 (nOwn s.ps) hd0) w → ArgsOk (ρ.on V) (Us U0 (nOwn s.ps) hd0) w hd0 s.ps d vs 0 →
  Calls P f vs.toArray w fun e w' => ∃ rvs hd', e = .returned (oneV rvs) ∧ Ag (Us (fun _ => False) (nOwn s.ps) hd0) w w' ∧ (∀ i, i < nOwn s.ps → fxP s.ps i = true → hd' i = hd0 i) ∧ (∀ i, i < nOwn s.ps → ∀ b, blk (hd' i) = some b → blk (hd0 i) = some b ∨ w.heap.size ≤ b) ∧ Apart (nOwn s.ps + nOwn s.rs) hd' ∧
    MutsOk (ρ.on V) (Us U1 (nOwn s.ps + nOwn s.rs) hd') w' hd' s.ps (dl (s.fn d)) 0 ∧ RetsOk (ρ.on V) (Us U1 (nOwn s.ps + nOwn s.rs) hd') w' hd' w.heap.size s.rs (dr (s.fn d)) rvs (nOwn s.ps)
theorem ro_row {U U' : Nat → Prop} {w w' : World} {hd hd' : Nat → Value} {B B' : Nat} {e : TypeId} {t : T} {xs : List t.den} {v : Value} (h : RO ρ U w hd B (.row e t xs) v) (hb : ∀ b, blk v = some b → w'.heap[b]? = w.heap[b]? ∧ B' ≤ b) (k : Tk ρ.V U w U' w' t.weak) : RO ρ U' w' hd' B' (.row e t xs) v := by
  obtain ⟨cs, h1, h2⟩ := h
  refine ⟨cs, ?_, h2.mono (fun c x q => ?_)⟩
  · obtain ⟨g1, g2⟩ := h1
    refine ⟨g1, g2.imp id ?_⟩
    rintro ⟨g, cap, cur, e1, e2, e3, e4⟩
    have := hb g (by rw [e1]; rfl)
    exact ⟨g, cap, cur, e1, this.2, this.1.trans e3, e4⟩
  · exact ICs.tk k q
/-- A struct, its cells seen otherwise. -/
theorem ro_cells {U U' : Nat → Prop} {w : World} {hd hd' : Nat → Value} {B B' : Nat} {e : TypeId} {l l' : List A} {v : Value} (h : RO ρ U w hd B (.cells e l) v) (hb : ∀ b, blk v = some b → B' ≤ b) (hl : l'.length = l.length) (k : ∀ i u, RA ρ U w hd (atn .un l i) u → RA ρ U' w hd' (atn .un l' i) u) : RO ρ U' w hd' B' (.cells e l') v := by
  obtain ⟨b, vs, rfl, h1, h2, h3, h4⟩ := h
  refine ⟨b, vs, rfl, hb b rfl, h2, by rw [hl]; exact h3, fun i hi => ?_⟩
  obtain ⟨x, q1, q2, q3⟩ := h4 i (by rw [← hl]; exact hi)
  exact ⟨x, q1, q2, k i x q3⟩
/-- Do the cells of a struct look as they are told? -/
def okF : List Fd → List A → Bool
  | [], [] => true
  | .v _ :: fs, _ :: l => okF fs l
  | .r _ _ _ :: fs, .row _ :: l => okF fs l
  | _, _ => false
theorem readF_ok {ob : List Ob} : ∀ {fs : List Fd} {l : List A} {y : (fsT fs).den}, readF false ob fs l = some y → okF fs l = true
  | [], [], _, _ => rfl
  | [], _ :: _, _, h => by simp [readF] at h
  | .v t :: fs, [], _, h => by simp [readF] at h
  | .r e t mv :: fs, [], _, h => by simp [readF] at h
  | .v t :: fs, x :: l, y, h => by
    simp only [readF] at h
    split at h
    · rename_i y1 y2 h1 h2
      exact readF_ok (fs := fs) h2
    · cases h
  | .r e t mv :: fs, x :: l, y, h => by
    cases x with
    | row j =>
      simp only [readF] at h
      split at h
      · split at h
        · split at h
          · rename_i ys hys
            exact readF_ok (fs := fs) hys
          · cases h
        · cases h
      · cases h
    | _ => simp [readF] at h
theorem okF_len : ∀ {fs : List Fd} {l : List A}, okF fs l = true → (rIdx fs l).length = fsN fs
  | [], [], _ => rfl
  | [], _ :: _, h => by simp [okF] at h
  | .v t :: fs, [], h => by simp [okF] at h
  | .r e t mv :: fs, [], h => by simp [okF] at h
  | .v t :: fs, x :: l, h => by simp only [rIdx, fsN]; exact okF_len (fs := fs) h
  | .r e t mv :: fs, x :: l, h => by
    cases x <;> simp only [okF] at h <;> first | cases h | skip
    simp only [rIdx, fsN, List.length_cons]
    rw [okF_len (fs := fs) h]
theorem fsA_len : ∀ (fs : List Fd) (x : (fsT fs).den) (n : Nat), (fsA fs x n).length = fs.length
  | [], _, _ => rfl
  | .v t :: fs, x, n => by simp only [fsA, List.length_cons, fsA_len fs x.2 n]
  | .r e t mv :: fs, x, n => by simp only [fsA, List.length_cons, fsA_len fs x.2 (n + 1)]
theorem okF_alen : ∀ {fs : List Fd} {l : List A}, okF fs l = true → l.length = fs.length
  | [], [], _ => rfl
  | [], _ :: _, h => by simp [okF] at h
  | .v t :: fs, [], h => by simp [okF] at h
  | .r e t mv :: fs, [], h => by simp [okF] at h
  | .v t :: fs, x :: l, h => by simp only [List.length_cons]; rw [okF_alen (fs := fs) h]
  | .r e t mv :: fs, x :: l, h => by
    cases x <;> simp only [okF] at h <;> first | cases h | skip
    simp only [List.length_cons]
    rw [okF_alen (fs := fs) h]
theorem fsO_len : ∀ (fs : List Fd) (x : (fsT fs).den), (fsO fs x).length = fsN fs
  | [], _ => rfl
  | .v t :: fs, x => fsO_len fs x.2
  | .r e t mv :: fs, x => by simp only [fsO, fsN, List.length_cons, fsO_len fs x.2]
theorem fsO_row : ∀ (fs : List Fd) (x : (fsT fs).den) (q : Nat), q < fsN fs → ∃ e t, ∃ xs : List t.den, atn .gone (fsO fs x) q = .row e t xs ∧ (t.weak = true → fsLed fs = true)
  | [], _, q, h => by simp [fsN] at h
  | .v t :: fs, x, q, h => by
    obtain ⟨e, u, xs, h1, h2⟩ := fsO_row fs x.2 q h
    exact ⟨e, u, xs, h1, fun k => by simp [fsLed, h2 k]⟩
  | .r e t mv :: fs, x, 0, _ => ⟨e, t, x.1, rfl, fun k => by simp [fsLed, k]⟩
  | .r e t mv :: fs, x, q + 1, h => by
    obtain ⟨e', u, xs, h1, h2⟩ := fsO_row fs x.2 q (by simp only [fsN] at h; omega)
    exact ⟨e', u, xs, h1, fun k => by simp [fsLed, h2 k]⟩
/-- The rows' numbers turn; what is known of the cells stays. -/
theorem fsA_ra {w : World} {U U' : Nat → Prop} {hd hd' : Nat → Value} : ∀ (fs : List Fd) (x : (fsT fs).den) (m m' : Nat), Tk ρ.V U w U' w (fsLed fs) → (∀ q, q < fsN fs → hd' (m' + q) = hd (m + q)) → ∀ i u, RA ρ U w hd (atn .un (fsA fs x m) i) u → RA ρ U' w hd' (atn .un (fsA fs x m') i) u
  | [], _, _, _, _, _, i, u, h => by cases i <;> exact h
  | .v t :: fs, x, m, m', k, hq, 0, u, h => by
    obtain ⟨cs, e, hc⟩ := h
    refine ⟨cs, e, ?_⟩
    exact ICs.tk (k.part (fun k => by simp only [fsLed, Bool.or_eq_false_iff] at k; exact k.1)) hc
  | .v t :: fs, x, m, m', k, hq, i + 1, u, h => fsA_ra fs x.2 m m' (k.part (fun k => by simp only [fsLed, Bool.or_eq_false_iff] at k; exact k.2)) hq i u h
  | .r e t mv :: fs, x, m, m', k, hq, 0, u, h => by
    have h0 := hq 0 (by simp [fsN])
    rw [Nat.add_zero, Nat.add_zero] at h0
    show u = hd' m'
    rw [h0]
    exact h
  | .r e t mv :: fs, x, m, m', k, hq, i + 1, u, h => fsA_ra fs x.2 (m + 1) (m' + 1) (k.part (fun k => by simp only [fsLed, Bool.or_eq_false_iff] at k; exact k.2)) (fun q hq' => by
      have := hq (q + 1) (by simp only [fsN]; omega)
      rw [show m' + 1 + q = m' + (q + 1) by omega, show m + 1 + q = m + (q + 1) by omega]
      exact this) i u h
theorem fsA_refs : ∀ (fs : List Fd) (x : (fsT fs).den) (m : Nat), ∀ j ∈ (fsA fs x m).flatMap A.refs, m ≤ j ∧ j < m + fsN fs
  | [], _, _, j, h => by simp [fsA] at h
  | .v t :: fs, x, m, j, h => by
    simp only [fsA, List.flatMap_cons, A.refs, List.nil_append] at h
    exact fsA_refs fs x.2 m j h
  | .r e t mv :: fs, x, m, j, h => by
    simp only [fsA, List.flatMap_cons, A.refs, List.mem_append, List.mem_singleton] at h
    rcases h with rfl | h
    · simp only [fsN]; omega
    · have := fsA_refs fs x.2 (m + 1) j h
      simp only [fsN]
      omega
theorem backA_len : ∀ {fs : List Fd} {l : List A} (x : (fsT fs).den), okF fs l = true → (backA fs x l).length = fs.length
  | [], [], _, _ => rfl
  | [], _ :: _, _, h => by simp [okF] at h
  | .v t :: fs, [], _, h => by simp [okF] at h
  | .r e t mv :: fs, [], _, h => by simp [okF] at h
  | .v t :: fs, y :: l, x, h => by simp only [backA, List.length_cons]; rw [backA_len (fs := fs) x.2 h]
  | .r e t mv :: fs, y :: l, x, h => by
    cases y <;> simp only [okF] at h <;> first | cases h | skip
    simp only [backA, List.length_cons]
    rw [backA_len (fs := fs) x.2 h]
theorem backA_ra {w : World} {U U' : Nat → Prop} {hd hd' : Nat → Value} : ∀ {fs : List Fd} {l : List A} (x : (fsT fs).den) (m : Nat), okF fs l = true → Tk ρ.V U w U' w (fsLed fs) → (∀ q, q < fsN fs → hd' (atn 0 (rIdx fs l) q) = hd (m + q)) → ∀ i u, RA ρ U w hd (atn .un (fsA fs x m) i) u → RA ρ U' w hd' (atn .un (backA fs x l) i) u
  | [], [], _, _, _, _, _, i, u, h => by cases i <;> exact h
  | [], _ :: _, _, _, ok, _, _, _, _, _ => by simp [okF] at ok
  | .v t :: fs, [], _, _, ok, _, _, _, _, _ => by simp [okF] at ok
  | .r e t mv :: fs, [], _, _, ok, _, _, _, _, _ => by simp [okF] at ok
  | .v t :: fs, y :: l, x, m, ok, k, hq, 0, u, h => by
    obtain ⟨cs, e, hc⟩ := h
    refine ⟨cs, e, ?_⟩
    exact ICs.tk (k.part (fun k => by simp only [fsLed, Bool.or_eq_false_iff] at k; exact k.1)) hc
  | .v t :: fs, y :: l, x, m, ok, k, hq, i + 1, u, h => backA_ra (fs := fs) (l := l) x.2 m ok (k.part (fun k => by simp only [fsLed, Bool.or_eq_false_iff] at k; exact k.2)) hq i u h
  | .r e t mv :: fs, y :: l, x, m, ok, k, hq, i, u, h => by
    cases y <;> simp only [okF] at ok <;> first | cases ok | skip
    rename_i j
    cases i with
    | zero =>
      have h0 := hq 0 (by simp [fsN])
      show u = hd' j
      rw [show hd' j = hd (m + 0) from h0]
      exact h
    | succ i =>
      exact backA_ra (fs := fs) (l := l) x.2 (m + 1) ok (k.part (fun k => by simp only [fsLed, Bool.or_eq_false_iff] at k; exact k.2)) (fun q hq' => by
        have := hq (q + 1) (by simp only [fsN]; omega)
        rw [show m + 1 + q = m + (q + 1) by omega]
        exact this) i u h
theorem backA_refs : ∀ {fs : List Fd} {l : List A} (x : (fsT fs).den), okF fs l = true → ∀ j ∈ (backA fs x l).flatMap A.refs, j ∈ rIdx fs l
  | [], [], _, _, j, h => by simp [backA] at h
  | [], _ :: _, _, ok, _, _ => by simp [okF] at ok
  | .v t :: fs, [], _, ok, _, _ => by simp [okF] at ok
  | .r e t mv :: fs, [], _, ok, _, _ => by simp [okF] at ok
  | .v t :: fs, y :: l, x, ok, j, h => by
    simp only [backA, List.flatMap_cons, A.refs, List.nil_append] at h
    exact backA_refs (fs := fs) (l := l) x.2 ok j h
  | .r e t mv :: fs, y :: l, x, ok, j, h => by
    cases y <;> simp only [okF] at ok <;> first | cases ok | skip
    simp only [backA, List.flatMap_cons, A.refs, List.mem_append, List.mem_singleton] at h
    simp only [rIdx, List.mem_cons]
    exact h.imp id (backA_refs (fs := fs) x.2 ok j)
theorem nodupB_cons {x : Nat} {l : List Nat} (h : nodupB (x :: l) = true) : x ∉ l ∧ nodupB l = true := by
  simp only [nodupB, Bool.and_eq_true, Bool.not_eq_true', List.contains_eq_mem] at h
  exact ⟨by simpa using h.1, h.2⟩
theorem nodupB_app : ∀ {a b : List Nat}, nodupB (a ++ b) = true → nodupB a = true ∧ nodupB b = true ∧ ∀ x ∈ a, x ∉ b
  | [], _, h => ⟨rfl, h, fun x hx => by cases hx⟩
  | x :: a, b, h => by
    obtain ⟨h1, h2⟩ := nodupB_cons (x := x) (l := a ++ b) h
    obtain ⟨h3, h4, h5⟩ := nodupB_app h2
    simp only [List.mem_append, not_or] at h1
    refine ⟨?_, h4, fun y hy => ?_⟩
    · simp only [nodupB, Bool.and_eq_true, Bool.not_eq_true', List.contains_eq_mem]
      exact ⟨by simpa using h1.1, h3⟩
    · rcases List.mem_cons.1 hy with rfl | hy
      · exact h1.2
      · exact h5 y hy
theorem backO_ok : ∀ {fs : List Fd} {l : List A} (x : (fsT fs).den) (ob : List Ob), okF fs l = true → nodupB (rIdx fs l) = true → (∀ i ∈ rIdx fs l, i < ob.length) →
    (backO fs x l ob).length = ob.length ∧ (∀ i, i ∉ rIdx fs l → atn .gone (backO fs x l ob) i = atn .gone ob i) ∧ ∀ q, q < fsN fs → atn .gone (backO fs x l ob) (atn 0 (rIdx fs l) q) = atn .gone (fsO fs x) q
  | [], [], _, ob, _, _, _ => ⟨rfl, fun _ _ => rfl, fun q hq => by simp [fsN] at hq⟩
  | [], _ :: _, _, _, ok, _, _ => by simp [okF] at ok
  | .v t :: fs, [], _, _, ok, _, _ => by simp [okF] at ok
  | .r e t mv :: fs, [], _, _, ok, _, _ => by simp [okF] at ok
  | .v t :: fs, y :: l, x, ob, ok, hn, hl => backO_ok (fs := fs) (l := l) x.2 ob ok hn hl
  | .r e t mv :: fs, y :: l, x, ob, ok, hn, hl => by
    cases y <;> simp only [okF] at ok <;> first | cases ok | skip
    rename_i j
    obtain ⟨n1, n2⟩ := nodupB_cons (x := j) (l := rIdx fs l) hn
    obtain ⟨h1, h2, h3⟩ := backO_ok (fs := fs) (l := l) x.2 (setn (.row e t x.1) ob j) ok n2 (fun i hi => by rw [length_setn]; exact hl i (by simp [rIdx, hi]))
    have hj : j < ob.length := hl j (by simp [rIdx])
    refine ⟨by simp only [backO]; rw [h1, length_setn], fun i hi => ?_, fun q hq => ?_⟩
    · simp only [rIdx, List.mem_cons, not_or] at hi
      simp only [backO]
      rw [h2 i hi.2, atn_setn, if_neg (fun hc => hi.1 hc.1.symm)]
    · cases q with
      | zero =>
        simp only [backO, rIdx, atn, fsO]
        rw [h2 j n1, atn_setn, if_pos ⟨rfl, hj⟩]
      | succ q => exact h3 q (by simp only [fsN] at hq; omega)
theorem atn_app_left {l r : List Nat} {q : Nat} (h : q < l.length) : atn 0 (l ++ r) q = atn 0 l q := by rw [atn_append, if_pos h]
theorem atn_app_right {l r : List Nat} (q : Nat) : atn 0 (l ++ r) (l.length + q) = atn 0 r q := by rw [atn_append, if_neg (by omega)]; congr 1; omega
theorem cells_of {ob : List Ob} {i : Nat} {e : TypeId} {l : List A} (h : atn .gone ob i = .cells e l) : cellsOf ob i = l := by unfold cellsOf; rw [h]
theorem ob_lt {ob : List Ob} {i : Nat} (h : atn Ob.gone ob i ≠ .gone) : i < ob.length := by
  rcases Nat.lt_or_ge i ob.length with q | q
  · exact q
  · exact absurd (atn_out _ _ _ q) h
theorem args_bx {ob : List Ob} {e : TypeId} {fs : List Fd} {ps : List PM} {x : A} {xs : List A} {da : Ds ((PM.bx e fs :: ps).map PM.ty)} (ha : args ob (.bx e fs :: ps) (x :: xs) = some da) : ∃ i l y ys, x = .box i 0 ∧ atn .gone ob i = .cells e l ∧ readF false ob fs l = some y ∧ args ob ps xs = some ys ∧ da = (y, ys) := by
  cases x with
  | box i k =>
    cases k with
    | succ k => simp [args] at ha
    | zero =>
      simp only [args] at ha
      split at ha
      · rename_i e' l hat
        split at ha
        · rename_i he
          subst he
          split at ha
          · rename_i y ys hy hys
            injection ha with ha
            exact ⟨_, _, _, _, rfl, hat, hy, hys, ha.symm⟩
          · cases ha
        · cases ha
      · cases ha
  | _ => simp [args] at ha
theorem atn_mem_of {l : List Nat} {q : Nat} (h : q < l.length) : atn 0 l q ∈ l := atn_mem 0 l q h
theorem atn_idx : ∀ {l : List Nat} {i : Nat}, i ∈ l → ∃ q, q < l.length ∧ atn 0 l q = i
  | x :: l, i, h => by
    rcases List.mem_cons.1 h with rfl | h
    · exact ⟨0, by simp, rfl⟩
    · obtain ⟨q, h1, h2⟩ := atn_idx h
      exact ⟨q + 1, by simpa using h1, h2⟩
theorem nodup_inj : ∀ {l : List Nat}, nodupB l = true → ∀ i j, i < l.length → j < l.length → atn 0 l i = atn 0 l j → i = j
  | [], _, i, j, hi, _, _ => by simp at hi
  | x :: l, h, i, j, hi, hj, e => by
    simp only [nodupB, Bool.and_eq_true, Bool.not_eq_true', List.contains_eq_mem] at h
    have hx : x ∉ l := by simpa using h.1
    cases i with
    | zero => cases j with
      | zero => rfl
      | succ j => exact absurd (show x ∈ l by simp only [atn] at e; rw [e]; exact atn_mem 0 l j (by simpa using hj)) hx
    | succ i => cases j with
      | zero => exact absurd (show x ∈ l by simp only [atn] at e; rw [← e]; exact atn_mem 0 l i (by simpa using hi)) hx
      | succ j => rw [nodup_inj h.2 i j (by simpa using hi) (by simpa using hj) e]
theorem cut_ra {U U' : Nat → Prop} {w w' : World} {hd hd' : Nat → Value} {i j m : Nat} {f : Bool} {v : Value} (h : RA ρ U w hd (.cut i m f) v) (e : hd' j = hd i) : RA ρ U' w' hd' (.cut j m f) v := by
  obtain ⟨a, l, c, c', h1, h2⟩ := h
  exact ⟨a, l, c, c', e.trans h1, h2⟩
theorem args_cut {ob : List Ob} {e : TypeId} {t : T} {ps : List PM} {x : A} {xs : List A} {da : Ds ((PM.cutp e t :: ps).map PM.ty)} (ha : args ob (.cutp e t :: ps) (x :: xs) = some da) : ∃ i m, ∃ l : List t.den, ∃ ys, x = .cut i m true ∧ atn .gone ob i = .row e t l ∧ args ob ps xs = some ys ∧ da = ((l, (m : Int)), ys) := by
  cases x with
  | cut i m f =>
    cases f with
    | false => simp [args] at ha
    | true =>
      simp only [args] at ha
      split at ha
      · rename_i e' u l hat
        split at ha
        · rename_i hu
          obtain ⟨rfl, rfl⟩ := hu
          split at ha
          · rename_i ys hys
            injection ha with ha
            exact ⟨_, _, _, _, rfl, hat, hys, ha.symm⟩
          · cases ha
        · cases ha
      · cases ha
  | _ => simp [args] at ha
theorem giveBack_ok {w' : World} {Uc Un : Nat → Prop} {hdc hdn : Nat → Value} (o : List Ob) : ∀ (ps : List PM) (xs : List A) {rs : List T} (d : Ds (muts ps ++ rs)) (ob : List Ob) {ob2 : List Ob} {r : Ds rs} (n : Nat) {da : Ds (ps.map PM.ty)}, giveBack o ps xs d ob = some (ob2, r) → args o ps xs = some da → (∀ i ∈ ownArgs o ps xs, i < ob.length) → nodupB (ownArgs o ps xs) = true →
    Tk ρ.V Uc w' Un w' (ownLed ps) → MutsOk ρ Uc w' hdc ps (dl d) n → (∀ q, q < (ownArgs o ps xs).length → hdn (atn 0 (ownArgs o ps xs) q) = hdc (n + q)) →
    r = dr d ∧ ob2.length = ob.length ∧ (∀ i, i ∉ ownArgs o ps xs → atn .gone ob2 i = atn .gone ob i) ∧
      ∀ i ∈ ownArgs o ps xs, RO ρ Un w' hdn 0 (atn .gone ob2 i) (hdn i) ∧ ∀ j ∈ (atn .gone ob2 i).refs, j ∈ ownArgs o ps xs
  | [], xs, rs, d, ob, ob2, r, n, da, h, _, _, _, _, _, _ => by
    simp only [giveBack] at h
    injection h with h
    injection h with h1 h2
    subst h1 h2
    exact ⟨rfl, rfl, fun _ _ => rfl, fun q hq => by cases xs <;> simp [ownArgs] at hq⟩
  | .nbx e fs :: ps, xs, rs, d, ob, ob2, r, n, da, h, ha, _, _, _, _, _ => by cases xs <;> simp [args] at ha
  | .val t :: ps, [], rs, d, ob, ob2, r, n, da, h, ha, _, _, _, _, _ => by simp [args] at ha
  | .own e t :: ps, [], rs, d, ob, ob2, r, n, da, h, ha, _, _, _, _, _ => by simp [args] at ha
  | .bx e fs :: ps, [], rs, d, ob, ob2, r, n, da, h, ha, _, _, _, _, _ => by simp [args] at ha
  | .cutp e t :: ps, [], rs, d, ob, ob2, r, n, da, h, ha, _, _, _, _, _ => by simp [args] at ha
  | .cutp e t :: ps, x :: xs, rs, d, ob, ob2, r, n, da, h, ha, ho, hn, k, hm, hq => by
    obtain ⟨i, m, l, da', rfl, hat, ha', rfl⟩ := args_cut ha
    simp only [giveBack] at h
    obtain ⟨hi, hn2⟩ := nodupB_cons (x := i) (l := ownArgs o ps xs) hn
    have k' : Tk ρ.V Uc w' Un w' (ownLed ps) := k.part (fun k => by simp only [ownLed, Bool.or_eq_false_iff] at k; exact k.2)
    have h0 : hdn i = hdc n := hq 0 (by simp [ownArgs])
    obtain ⟨h1, h2, h4, h5⟩ := giveBack_ok o ps xs d.2 (setn (.row e t d.1) ob i) (n + 1) h ha' (fun j hj => by rw [length_setn]; exact ho j (by simp [ownArgs, hj])) hn2 k' hm.2 (fun q hq' => by
      have := hq (q + 1) (by simpa [ownArgs] using hq')
      rw [show n + 1 + q = n + (q + 1) by omega]
      exact this)
    refine ⟨h1, by rw [h2, length_setn], fun j hj => ?_, fun j hj => ?_⟩
    · simp only [ownArgs, List.mem_cons, not_or] at hj
      rw [h4 j hj.2, atn_setn, if_neg (fun hc => hj.1 hc.1.symm)]
    · simp only [ownArgs, List.mem_cons] at hj
      by_cases hji : j = i
      · subst hji
        rw [h4 j hi, atn_setn, if_pos ⟨rfl, ho j (by simp [ownArgs])⟩, h0]
        refine ⟨ro_row hm.1 (fun b hb => ⟨rfl, Nat.zero_le _⟩) (k.part (fun k => by simp only [ownLed, Bool.or_eq_false_iff] at k; exact k.1)), fun q hq' => by simp [Ob.refs] at hq'⟩
      · obtain ⟨g1, g2⟩ := h5 j (hj.resolve_left hji)
        exact ⟨g1, fun q hq' => by simp only [ownArgs, List.mem_cons]; exact .inr (g2 q hq')⟩
  | .val t :: ps, x :: xs, rs, d, ob, ob2, r, n, da, h, ha, ho, hn, k, hm, hq => by
    have e : ownArgs o (.val t :: ps) (x :: xs) = ownArgs o ps xs := by cases x <;> rfl
    rw [e] at ho hn hq ⊢
    simp only [giveBack] at h
    simp only [args] at ha
    split at ha
    · rename_i y ys hy hys
      exact giveBack_ok o ps xs d ob n h hys ho hn k hm hq
    · cases ha
  | .own e t :: ps, x :: xs, rs, d, ob, ob2, r, n, da, h, ha, ho, hn, k, hm, hq => by
    cases x with
    | row i =>
      simp only [giveBack] at h
      obtain ⟨hi, hn2⟩ := nodupB_cons (x := i) (l := ownArgs o ps xs) hn
      have ha' : ∃ da', args o ps xs = some da' := by
        simp only [args] at ha
        split at ha
        · split at ha
          · split at ha
            · rename_i ys hys; exact ⟨ys, hys⟩
            · cases ha
          · cases ha
        · cases ha
      obtain ⟨da', ha'⟩ := ha'
      have k' : Tk ρ.V Uc w' Un w' (ownLed ps) := k.part (fun k => by simp only [ownLed, Bool.or_eq_false_iff] at k; exact k.2)
      have h0 : hdn i = hdc n := hq 0 (by simp [ownArgs])
      obtain ⟨h1, h2, h4, h5⟩ := giveBack_ok o ps xs d.2 (setn (.row e t d.1) ob i) (n + 1) h ha' (fun j hj => by rw [length_setn]; exact ho j (by simp [ownArgs, hj])) hn2 k' hm.2 (fun q hq' => by
        have := hq (q + 1) (by simpa [ownArgs] using hq')
        rw [show n + 1 + q = n + (q + 1) by omega]
        exact this)
      refine ⟨h1, by rw [h2, length_setn], fun j hj => ?_, fun j hj => ?_⟩
      · simp only [ownArgs, List.mem_cons, not_or] at hj
        rw [h4 j hj.2, atn_setn, if_neg (fun hc => hj.1 hc.1.symm)]
      · simp only [ownArgs, List.mem_cons] at hj
        by_cases hji : j = i
        · subst hji
          rw [h4 j hi, atn_setn, if_pos ⟨rfl, ho j (by simp [ownArgs])⟩, h0]
          refine ⟨ro_row hm.1 (fun b hb => ⟨rfl, Nat.zero_le _⟩) (k.part (fun k => by simp only [ownLed, Bool.or_eq_false_iff] at k; exact k.1)), fun q hq' => by simp [Ob.refs] at hq'⟩
        · obtain ⟨g1, g2⟩ := h5 j (hj.resolve_left hji)
          exact ⟨g1, fun q hq' => by simp only [ownArgs, List.mem_cons]; exact .inr (g2 q hq')⟩
    | _ => simp [giveBack] at h
  | .bx e fs :: ps, x :: xs, rs, d, ob, ob2, r, n, da, h, ha, ho, hn, k, hm, hq => by
    obtain ⟨i, l, y, ys, rfl, hat, hrd, ha', rfl⟩ := args_bx ha
    have hcl := cells_of hat
    have ok := readF_ok hrd
    have hrl := okF_len ok
    have eo : ownArgs o (.bx e fs :: ps) (.box i 0 :: xs) = i :: (rIdx fs l ++ ownArgs o ps xs) := by simp only [ownArgs, hcl]
    rw [eo] at ho hn hq ⊢
    simp only [giveBack, hcl] at h
    obtain ⟨hi, hn2⟩ := nodupB_cons hn
    simp only [List.mem_append, not_or] at hi
    obtain ⟨n1, n2, n3⟩ := nodupB_app hn2
    have k' : Tk ρ.V Uc w' Un w' (ownLed ps) := k.part (fun k => by simp only [ownLed, Bool.or_eq_false_iff] at k; exact k.2)
    have kf : Tk ρ.V Uc w' Un w' (fsLed fs) := k.part (fun k => by simp only [ownLed, Bool.or_eq_false_iff] at k; exact k.1)
    have h0 : hdn i = hdc n := hq 0 (by simp)
    have hqr : ∀ q, q < fsN fs → hdn (atn 0 (rIdx fs l) q) = hdc (n + 1 + q) := fun q hq' => by
      have := hq (q + 1) (by simp; omega)
      rw [show atn 0 (i :: (rIdx fs l ++ ownArgs o ps xs)) (q + 1) = atn 0 (rIdx fs l ++ ownArgs o ps xs) q from rfl, atn_app_left (by omega)] at this
      rw [show n + 1 + q = n + (q + 1) by omega]
      exact this
    have hb := backO_ok (fs := fs) (l := l) d.1 (setn (.cells e (backA fs d.1 l)) ob i) ok n1 (fun j hj => by rw [length_setn]; exact ho j (by simp [hj]))
    obtain ⟨b1, b2, b3⟩ := hb
    rw [length_setn] at b1
    obtain ⟨h1, h2, h4, h5⟩ := giveBack_ok o ps xs d.2 _ (n + (1 + fsN fs)) h ha' (fun j hj => by rw [b1]; exact ho j (by simp [hj])) n2 k' hm.2 (fun q hq' => by
      have := hq (1 + (rIdx fs l).length + q) (by simp; omega)
      rw [show atn 0 (i :: (rIdx fs l ++ ownArgs o ps xs)) (1 + (rIdx fs l).length + q) = atn 0 (rIdx fs l ++ ownArgs o ps xs) ((rIdx fs l).length + q) from by rw [show 1 + (rIdx fs l).length + q = ((rIdx fs l).length + q) + 1 by omega]; rfl, atn_app_right] at this
      rw [show n + (1 + fsN fs) + q = n + (1 + (rIdx fs l).length + q) by omega]
      exact this)
    obtain ⟨m1, m2⟩ := hm.1
    refine ⟨h1, by rw [h2, b1], fun j hj => ?_, fun j hj => ?_⟩
    · simp only [List.mem_cons, List.mem_append, not_or] at hj
      rw [h4 j hj.2.2, b2 j hj.2.1, atn_setn, if_neg (fun hc => hj.1 hc.1.symm)]
    · simp only [List.mem_cons, List.mem_append] at hj
      by_cases hji : j = i
      · subst hji
        have e1 : atn .gone ob2 j = .cells e (backA fs d.1 l) := by rw [h4 j hi.2, b2 j hi.1, atn_setn, if_pos ⟨rfl, ho j (by simp)⟩]
        rw [e1, h0]
        refine ⟨ro_cells m1 (fun b _ => Nat.zero_le _) (by rw [backA_len _ ok, fsA_len]) (backA_ra d.1 (n + 1) ok kf hqr), fun q hq' => ?_⟩
        have := backA_refs d.1 ok q hq'
        simp [this]
      · rcases hj.resolve_left hji with hj | hj
        · obtain ⟨q, hq1, rfl⟩ := atn_idx hj
          rw [h4 _ (n3 _ hj), b3 q (by omega), hqr q (by omega)]
          obtain ⟨e2, t2, xs2, g1, g2⟩ := fsO_row fs d.1 q (by omega)
          have m3 : RO ρ Uc w' hdc 0 (atn .gone (fsO fs d.1) q) (hdc (n + 1 + q)) := m2 q (by omega)
          rw [g1] at m3 ⊢
          refine ⟨ro_row m3 (fun b hb => ⟨rfl, Nat.zero_le _⟩) (kf.part (fun k => by
            cases hl : t2.weak with
            | false => rfl
            | true => rw [g2 hl] at k; cases k)), fun q hq' => by simp [Ob.refs] at hq'⟩
        · obtain ⟨g1, g2⟩ := h5 j hj
          exact ⟨g1, fun q hq' => by simp [g2 q hq']⟩
theorem atn_rep_gone (m i : Nat) : atn Ob.gone (List.replicate m Ob.gone) i = .gone := by
  induction m generalizing i with
  | zero => cases i <;> rfl
  | succ m ih => cases i with
    | zero => rfl
    | succ i => exact ih i
/-- The results, seen by the caller. -/
theorem resK_ok {R : Type} {rr : R} {w' : World} {Uc Un : Nat → Prop} {hdc hdn : Nat → Value} {B B' : Nat} (hB : B' ≤ B) : ∀ (rs : List PM) (d : Ds (rs.map PM.ty)) (vs : List Value) (ob : List Ob) (n : Nat) {k : List A → List Ob → Option R}, resK rs d ob k = some rr → Tk ρ.V Uc w' Un w' (anyLed rs) → RetsOk ρ Uc w' hdc B rs d vs n → (∀ q, q < nOwn rs → hdn (ob.length + q) = hdc (n + q)) →
    ∃ l ob', k l ob' = some rr ∧ ob'.length = ob.length + nOwn rs ∧ (∀ i, i < ob.length → atn .gone ob' i = atn .gone ob i) ∧ All2 (RA ρ Un w' hdn) l vs ∧ (∀ x ∈ l, ∀ j ∈ x.refs, j < ob'.length) ∧ (∀ i, ob.length ≤ i → i < ob'.length → RO ρ Un w' hdn B' (atn .gone ob' i) (hdn i) ∧ ∀ j ∈ (atn .gone ob' i).refs, j < ob'.length) ∧ (∀ q, q < nOwn rs → ∀ b, blk (hdc (n + q)) = some b → B ≤ b)
  | [], d, [], ob, n, k, h, _, _, _ => ⟨[], ob, h, rfl, fun _ _ => rfl, trivial, fun x hx => (by cases hx), fun i h1 h2 => by omega, fun q hq => by simp [nOwn] at hq⟩
  | [], d, _ :: _, ob, n, k, _, _, h, _ => h.elim
  | .val t :: rs, d, [], ob, n, k, _, _, h, _ => h.elim
  | .own e t :: rs, d, [], ob, n, k, _, _, h, _ => h.elim
  | .bx e fs :: rs, d, vs, ob, n, k, h, _, _, _ => by simp [resK] at h
  | .nbx e fs :: rs, d, [], ob, n, k, _, _, h, _ => h.elim
  | .cutp e t :: rs, d, [], ob, n, k, _, _, h, _ => h.elim
  | .cutp e t :: rs, d, v :: vs, ob, n, k, h0, kk, h, hh => by
    have k' : Tk ρ.V Uc w' Un w' (anyLed rs) := kk.part (fun h => by simp only [anyLed, Bool.or_eq_false_iff] at h; exact h.2)
    obtain ⟨q1, q2, q3⟩ := h
    simp only [resK] at h0
    obtain ⟨l, ob', g0, g1, g2, g3, g4, g5, g6⟩ := resK_ok hB rs d.2 vs (ob ++ [.row e t d.1.1]) (n + 1) h0 k' q3 (fun q hq => by
      have := hh (q + 1) (by simp [nOwn]; omega)
      rw [List.length_append, List.length_singleton, show ob.length + 1 + q = ob.length + (q + 1) by omega, show n + 1 + q = n + (q + 1) by omega]
      exact this)
    rw [List.length_append, List.length_singleton] at g1 g2 g5
    have hd0 : hdn ob.length = hdc n := hh 0 (by simp [nOwn])
    refine ⟨_, ob', g0, by simp only [nOwn]; omega, fun i hi => by rw [g2 i (by omega), atn_append, if_pos hi], ⟨cut_ra q1 hd0, g3⟩, fun x hx => ?_, fun i h1 h2 => ?_, fun q hq b hb => ?_⟩
    · rcases List.mem_cons.1 hx with rfl | hx
      · intro j hj
        simp only [A.refs, List.mem_singleton] at hj
        omega
      · exact g4 x hx
    · rcases Nat.lt_or_ge i (ob.length + 1) with hi | hi
      · have : i = ob.length := by omega
        subst this
        have e1 : atn Ob.gone ob' ob.length = .row e t d.1.1 := by
          rw [g2 ob.length (by omega), atn_append, if_neg (by omega), Nat.sub_self]
          rfl
        rw [e1, hd0]
        exact ⟨ro_row q2 (fun b hb => ⟨rfl, Nat.le_trans hB (q2.blk_ge hb).1⟩) (kk.part (fun h => by simp only [anyLed, Bool.or_eq_false_iff] at h; exact h.1)), fun j hj => by simp [Ob.refs] at hj⟩
      · exact g5 i hi h2
    · cases q with
      | zero => rw [Nat.add_zero] at hb; exact (q2.blk_ge hb).1
      | succ q =>
        refine g6 q (by simp [nOwn] at hq; omega) b ?_
        rw [show n + 1 + q = n + (q + 1) by omega]
        exact hb
  | .val t :: rs, d, v :: vs, ob, n, k, h0, kk, h, hh => by
    have k' : Tk ρ.V Uc w' Un w' (anyLed rs) := kk.part (fun h => by simp only [anyLed, Bool.or_eq_false_iff] at h; exact h.2)
    simp only [resK] at h0
    obtain ⟨l, ob', g0, g1, g2, g3, g4, g5, g6⟩ := resK_ok hB rs d.2 vs ob n h0 k' h.2 hh
    refine ⟨_, ob', g0, g1, g2, ⟨?_, g3⟩, fun x hx => ?_, g5, g6⟩
    · obtain ⟨cs, e, hc⟩ := h.1
      refine ⟨cs, e, ?_⟩
      exact ICs.tk (kk.part (fun k => by simp only [anyLed, Bool.or_eq_false_iff] at k; exact k.1)) hc
    · rcases List.mem_cons.1 hx with rfl | hx
      · intro j hj; simp [A.refs] at hj
      · exact g4 x hx
  | .own e t :: rs, d, v :: vs, ob, n, k, h0, kk, h, hh => by
    have k' : Tk ρ.V Uc w' Un w' (anyLed rs) := kk.part (fun h => by simp only [anyLed, Bool.or_eq_false_iff] at h; exact h.2)
    obtain ⟨q1, q2, q3⟩ := h
    simp only [resK] at h0
    obtain ⟨l, ob', g0, g1, g2, g3, g4, g5, g6⟩ := resK_ok hB rs d.2 vs (ob ++ [.row e t d.1]) (n + 1) h0 k' q3 (fun q hq => by
      have := hh (q + 1) (by simp [nOwn]; omega)
      rw [List.length_append, List.length_singleton, show ob.length + 1 + q = ob.length + (q + 1) by omega, show n + 1 + q = n + (q + 1) by omega]
      exact this)
    rw [List.length_append, List.length_singleton] at g1 g2 g5
    have hd0 : hdn ob.length = hdc n := hh 0 (by simp [nOwn])
    refine ⟨_, ob', g0, by simp only [nOwn]; omega, fun i hi => by rw [g2 i (by omega), atn_append, if_pos hi], ⟨by show v = hdn ob.length; rw [hd0]; exact q1, g3⟩, fun x hx => ?_, fun i h1 h2 => ?_, fun q hq b hb => ?_⟩
    · rcases List.mem_cons.1 hx with rfl | hx
      · intro j hj
        simp only [A.refs, List.mem_singleton] at hj
        omega
      · exact g4 x hx
    · rcases Nat.lt_or_ge i (ob.length + 1) with hi | hi
      · have : i = ob.length := by omega
        subst this
        have e1 : atn Ob.gone ob' ob.length = .row e t d.1 := by
          rw [g2 ob.length (by omega), atn_append, if_neg (by omega), Nat.sub_self]
          rfl
        rw [e1, hd0, ← q1]
        exact ⟨ro_row q2 (fun b hb => ⟨rfl, Nat.le_trans hB (q2.blk_ge hb).1⟩) (kk.part (fun h => by simp only [anyLed, Bool.or_eq_false_iff] at h; exact h.1)), fun j hj => by simp [Ob.refs] at hj⟩
      · exact g5 i hi h2
    · cases q with
      | zero => rw [Nat.add_zero, ← q1] at hb; exact (q2.blk_ge hb).1
      | succ q =>
        refine g6 q (by simp [nOwn] at hq; omega) b ?_
        rw [show n + 1 + q = n + (q + 1) by omega]
        exact hb
  | .nbx e fs :: rs, d, v :: vs, ob, n, k, h0, kk, h, hh => by
    have k' : Tk ρ.V Uc w' Un w' (anyLed rs) := kk.part (fun h => by simp only [anyLed, Bool.or_eq_false_iff] at h; exact h.2)
    have kf : Tk ρ.V Uc w' Un w' (fsLed fs) := kk.part (fun h => by simp only [anyLed, Bool.or_eq_false_iff] at h; exact h.1)
    obtain ⟨d1, d2⟩ := d
    obtain ⟨q1, q3⟩ := h
    simp only [resK] at h0
    have hrec : ∀ (nw : List Ob), nw.length = 1 + fsN fs → ∀ {k : List A → List Ob → Option R}, resK rs d2 (ob ++ nw) k = some rr → ∃ l ob', k l ob' = some rr ∧ ob'.length = ob.length + (1 + fsN fs) + nOwn rs ∧ (∀ i, i < ob.length → atn .gone ob' i = atn .gone ob i) ∧ (∀ i, i < 1 + fsN fs → atn .gone ob' (ob.length + i) = atn .gone nw i) ∧ All2 (RA ρ Un w' hdn) l vs ∧ (∀ x ∈ l, ∀ j ∈ x.refs, j < ob'.length) ∧ (∀ i, ob.length + (1 + fsN fs) ≤ i → i < ob'.length → RO ρ Un w' hdn B' (atn .gone ob' i) (hdn i) ∧ ∀ j ∈ (atn .gone ob' i).refs, j < ob'.length) ∧ (∀ q, q < nOwn rs → ∀ b, blk (hdc (n + (1 + fsN fs) + q)) = some b → B ≤ b) := fun nw hnw k h0 => by
      obtain ⟨l, ob', g0, g1, g2, g3, g4, g5, g6⟩ := resK_ok hB rs d2 vs (ob ++ nw) (n + (1 + fsN fs)) h0 k' q3 (fun q hq => by
        have := hh ((1 + fsN fs) + q) (by simp only [nOwn]; omega)
        rw [List.length_append, hnw, show ob.length + (1 + fsN fs) + q = ob.length + (1 + fsN fs + q) by omega, show n + (1 + fsN fs) + q = n + (1 + fsN fs + q) by omega]
        exact this)
      rw [List.length_append, hnw] at g1 g2 g5
      exact ⟨l, ob', g0, g1, fun i hi => by rw [g2 i (by omega), atn_append, if_pos hi], fun i hi => by rw [g2 _ (by omega), atn_append, if_neg (by omega), Nat.add_sub_cancel_left], g3, g4, g5, g6⟩
    have hdq : ∀ q, q < 1 + fsN fs → hdn (ob.length + q) = hdc (n + q) := fun q hq => hh q (by simp only [nOwn]; omega)
    cases d1 with
    | none =>
      obtain ⟨rfl, hnil⟩ := q1
      simp only [Option.isNone_none, if_true] at h0
      obtain ⟨l, ob', g0, g1, g2, g2', g3, g4, g5, g6⟩ := hrec _ (by simp) h0
      refine ⟨_, ob', g0, by simp only [nOwn]; omega, g2, ⟨rfl, g3⟩, fun x hx => ?_, fun i h1 h2 => ?_, fun q hq b hb => ?_⟩
      · rcases List.mem_cons.1 hx with rfl | hx
        · intro j hj; simp [A.refs] at hj
        · exact g4 x hx
      · rcases Nat.lt_or_ge i (ob.length + (1 + fsN fs)) with hi | hi
        · have e1 := g2' (i - ob.length) (by omega)
          rw [atn_rep_gone, show ob.length + (i - ob.length) = i by omega] at e1
          have e2 := hdq (i - ob.length) (by omega)
          rw [show ob.length + (i - ob.length) = i by omega, hnil _ (by omega)] at e2
          rw [e1, e2]
          exact ⟨rfl, fun j hj => by simp [Ob.refs] at hj⟩
        · exact g5 i hi h2
      · rcases Nat.lt_or_ge q (1 + fsN fs) with hq1 | hq1
        · rw [hnil q hq1] at hb; simp [blk, nilV] at hb
        · refine g6 (q - (1 + fsN fs)) (by simp only [nOwn] at hq; omega) b ?_
          rw [show n + (1 + fsN fs) + (q - (1 + fsN fs)) = n + q by omega]
          exact hb
    | some x =>
      obtain ⟨rfl, m1, m2⟩ := q1
      simp only [Option.isNone_some, Bool.false_eq_true, if_false, Option.getD_some] at h0
      obtain ⟨l, ob', g0, g1, g2, g2', g3, g4, g5, g6⟩ := hrec _ (by simp [fsO_len]; omega) h0
      have hd0 : hdn ob.length = hdc n := hdq 0 (by omega)
      have hdr : ∀ q, q < fsN fs → hdn (ob.length + 1 + q) = hdc (n + 1 + q) := fun q hq => by
        have := hdq (q + 1) (by omega)
        rw [show ob.length + 1 + q = ob.length + (q + 1) by omega, show n + 1 + q = n + (q + 1) by omega]
        exact this
      refine ⟨_, ob', g0, by simp only [nOwn]; omega, g2, ⟨?_, g3⟩, fun y hy => ?_, fun i h1 h2 => ?_, fun q hq b hb => ?_⟩
      · obtain ⟨b, vs', e1, _⟩ := m1
        exact ⟨b, by rw [hd0]; exact e1, e1⟩
      · rcases List.mem_cons.1 hy with rfl | hy
        · intro j hj
          simp only [A.refs, List.mem_singleton] at hj
          omega
        · exact g4 y hy
      · rcases Nat.lt_or_ge i (ob.length + (1 + fsN fs)) with hi | hi
        · have e1 := g2' (i - ob.length) (by omega)
          rw [show ob.length + (i - ob.length) = i by omega] at e1
          rw [e1]
          rcases Nat.eq_zero_or_pos (i - ob.length) with hz | hz
          · have : i = ob.length := by omega
            subst this
            rw [hz, hd0]
            refine ⟨ro_cells m1 (fun b hb => Nat.le_trans hB (m1.blk_ge hb).1) (by rw [fsA_len, fsA_len]) (fsA_ra fs x (n + 1) (ob.length + 1) kf hdr), fun j hj => ?_⟩
            have := fsA_refs fs x (ob.length + 1) j hj
            omega
          · obtain ⟨q, hq⟩ : ∃ q, i - ob.length = q + 1 := ⟨i - ob.length - 1, by omega⟩
            rw [hq, show atn Ob.gone (Ob.cells e (fsA fs x (ob.length + 1)) :: fsO fs x) (q + 1) = atn .gone (fsO fs x) q from rfl]
            have e2 := hdr q (by omega)
            rw [show ob.length + 1 + q = i by omega] at e2
            rw [e2]
            obtain ⟨e3, t3, xs3, f1, f2⟩ := fsO_row fs x q (by omega)
            have m3 := m2 q (by omega)
            rw [f1] at m3 ⊢
            refine ⟨ro_row m3 (fun b hb => ⟨rfl, Nat.le_trans hB (m3.blk_ge hb).1⟩) (kf.part (fun k => by
              cases hl : t3.weak with
              | false => rfl
              | true => rw [f2 hl] at k; cases k)), fun j hj => by simp [Ob.refs] at hj⟩
        · exact g5 i hi h2
      · rcases Nat.lt_or_ge q (1 + fsN fs) with hq1 | hq1
        · rcases Nat.eq_zero_or_pos q with hz | hz
          · subst hz
            rw [Nat.add_zero] at hb
            exact (m1.blk_ge hb).1
          · have m3 := m2 (q - 1) (by omega)
            rw [show n + 1 + (q - 1) = n + q by omega] at m3
            exact (m3.blk_ge hb).1
        · refine g6 (q - (1 + fsN fs)) (by simp only [nOwn] at hq; omega) b ?_
          rw [show n + (1 + fsN fs) + (q - (1 + fsN fs)) = n + q by omega]
          exact hb
/-- The cells of a struct, as the callee sees them. -/
theorem readF_ra {ob : List Ob} {w : World} {U Uc : Nat → Prop} {hd hdc : Nat → Value} (ht : Tr U w Uc w) : ∀ {fs : List Fd} {l : List A} {y : (fsT fs).den} (m : Nat), readF false ob fs l = some y → (∀ q, q < fsN fs → hdc (m + q) = hd (atn 0 (rIdx fs l) q)) → ∀ i u, RA ρ U w hd (atn .un l i) u → RA ρ Uc w hdc (atn .un (fsA fs y m) i) u
  | [], [], _, _, _, _, i, u, h => by cases i <;> exact h
  | [], _ :: _, _, _, h, _, _, _, _ => by simp [readF] at h
  | .v t :: fs, [], _, _, h, _, _, _, _ => by simp [readF] at h
  | .r e t mv :: fs, [], _, _, h, _, _, _, _ => by simp [readF] at h
  | .v t :: fs, x :: l, y, m, h, hq, i, u, hr => by
    simp only [readF] at h
    split at h
    · rename_i y1 y2 h1 h2
      injection h with h
      subst h
      cases i with
      | zero => exact IRd.tr (toV0 h1 hr) ht
      | succ i => exact readF_ra ht m h2 hq i u hr
    · cases h
  | .r e t mv :: fs, x :: l, y, m, h, hq, i, u, hr => by
    cases x with
    | row j =>
      simp only [readF] at h
      split at h
      · split at h
        · split at h
          · rename_i hh _ ys hys
            injection h with h
            subst h
            cases i with
            | zero =>
              have h0 := hq 0 (by simp [fsN])
              show u = hdc m
              rw [show hdc m = hd j from h0]
              exact hr
            | succ i =>
              exact readF_ra ht (m + 1) hys (fun q hq' => by
                have := hq (q + 1) (by simp only [fsN]; omega)
                rw [show m + 1 + q = m + (q + 1) by omega]
                exact this) i u hr
          · cases h
        · cases h
      · cases h
    | _ => simp [readF] at h
theorem readF_row {nl : Bool} {ob : List Ob} : ∀ {fs : List Fd} {l : List A} {y : (fsT fs).den}, okF fs l = true → readF nl ob fs l = some y → ∀ q, q < fsN fs → atn .gone (fsO fs y) q = atn .gone ob (atn 0 (rIdx fs l) q)
  | [], [], _, _, _, q, hq => by simp [fsN] at hq
  | [], _ :: _, _, ok, _, _, _ => by simp [okF] at ok
  | .v t :: fs, [], _, ok, _, _, _ => by simp [okF] at ok
  | .r e t mv :: fs, [], _, ok, _, _, _ => by simp [okF] at ok
  | .v t :: fs, x :: l, y, ok, h, q, hq => by
    simp only [readF] at h
    split at h
    · rename_i y1 y2 h1 h2
      injection h with h
      subst h
      exact readF_row (fs := fs) (l := l) ok h2 q hq
    · cases h
  | .r e t mv :: fs, x :: l, y, ok, h, q, hq => by
    cases x <;> simp only [okF] at ok <;> first | cases ok | skip
    rename_i j
    simp only [readF] at h
    split at h
    · rename_i e' u xs hat
      split at h
      · rename_i hh
        obtain ⟨rfl, rfl⟩ := hh
        split at h
        · rename_i ys hys
          injection h with h
          subst h
          cases q with
          | zero => exact hat.symm
          | succ q => exact readF_row (fs := fs) (l := l) ok hys q (by simp only [fsN] at hq; omega)
        · cases h
      · cases h
    · cases h
theorem rIdx_refs : ∀ {fs : List Fd} {l : List A}, ∀ j ∈ rIdx fs l, j ∈ l.flatMap A.refs
  | [], l, j, h => by cases l <;> simp [rIdx] at h
  | .v t :: fs, [], j, h => by simp [rIdx] at h
  | .r e t mv :: fs, [], j, h => by simp [rIdx] at h
  | .v t :: fs, x :: l, j, h => by
    rw [List.flatMap_cons, List.mem_append]
    exact .inr (rIdx_refs (fs := fs) j h)
  | .r e t mv :: fs, x :: l, j, h => by
    rw [List.flatMap_cons, List.mem_append]
    cases x with
    | row i =>
      simp only [rIdx, List.mem_cons] at h
      rcases h with rfl | h
      · exact .inl (by simp [A.refs])
      · exact .inr (rIdx_refs (fs := fs) j h)
    | _ => exact .inr (rIdx_refs (fs := fs) j (by simpa [rIdx] using h))
theorem gathV_ok {U' : Nat → Prop} (H : Rel ρ w0 U0 own fx hd0 st a w hd) (hU : ∀ b, b < w.heap.size → U' b → Us U0 st.ob.length hd b) {l : List A} {vs : List Value} (h : ∀ i, i < l.length → ∃ x, vs[i]? = some x ∧ RA ρ (Us U0 st.ob.length hd) w hd (atn .un l i) x) (hr : ∀ j ∈ l.flatMap A.rowOf, ∀ b, blk (hd j) = some b → ¬ U' b) : ∀ {t : T} {c : Nat} {y : t.den}, gathV st.ob l t c = some y → ∃ ds, ICs ρ U' w t ds y ∧ ∀ j, j < t.size → vs[c + j]? = ds[j]? := by
  have one : ∀ {u : T}, u.isPair = false → ∀ {c : Nat} {y : u.den}, A.toV st.ob u (atn .un l c) = some y → ∃ ds, ICs ρ U' w u ds y ∧ ∀ j, j < u.size → vs[c + j]? = ds[j]? := fun {u} hp {c} {y} e => by
    have hc : c < l.length := by
      rcases Nat.lt_or_ge c l.length with q | q
      · exact q
      · rw [atn_out _ _ _ q] at e
        cases u <;> simp [A.toV] at e
    obtain ⟨x, hx, hra⟩ := h c hc
    obtain ⟨cs, rfl, hi⟩ := toV_ird H e hra hU (fun i hi => hr i (List.mem_flatMap.2 ⟨_, atn_mem .un l c hc, hi⟩))
    obtain ⟨v, rfl, _⟩ := ICs.one hp hi
    have hs := T.size_one _ hp
    refine ⟨[v], hi, fun j hj => ?_⟩
    obtain rfl : j = 0 := by omega
    rw [pack_one hp] at hx
    simpa using hx
  intro t
  induction t with
  | pair a b iha ihb =>
    intro c y e
    unfold gathV at e
    split at e
    · rename_i x1 x2 h1 h2
      injection e with e
      subst e
      obtain ⟨d1, i1, j1⟩ := iha h1
      obtain ⟨d2, i2, j2⟩ := ihb h2
      have l1 := ICs.length i1
      have hs : (T.pair a b).size = a.size + b.size := rfl
      refine ⟨d1 ++ d2, ⟨d1, d2, rfl, i1, i2⟩, fun j hj => ?_⟩
      by_cases hj1 : j < a.size
      · rw [List.getElem?_append_left (by omega)]
        exact j1 j hj1
      · rw [List.getElem?_append_right (by omega), l1, ← j2 (j - a.size) (by omega), show c + a.size + (j - a.size) = c + j by omega]
    · cases e
  | one t ih => intro c y e; exact ih e
  | int k => intro c y e; exact one rfl e
  | bool => intro c y e; exact one rfl e
  | flt => intro c y e; exact one rfl e
  | list t _ => intro c y e; exact one rfl e
  | obj n => intro c y e; exact one rfl e
  | ptr t _ => intro c y e; exact one rfl e
theorem atn_idxU {d : A} : ∀ {l : List A} {x : A}, x ∈ l → ∃ q, q < l.length ∧ atn d l q = x
  | y :: l, x, h => by
    rcases List.mem_cons.1 h with rfl | h
    · exact ⟨0, by simp, rfl⟩
    · obtain ⟨q, h1, h2⟩ := atn_idxU (d := d) h
      exact ⟨q + 1, by simpa using h1, h2⟩
theorem tup_ra {U : Nat → Prop} {w : World} {hd : Nat → Value} : ∀ {a : A} {xs : List Value}, A.tupB a = true → RA ρ U w hd a (.tuple xs.toArray) → xs.length = (listA a).length ∧ ∀ i, i < (listA a).length → ∃ x, xs[i]? = some x ∧ RA ρ U w hd (atn .un (listA a) i) x
  | .tnil, xs, _, h => by
    have h : Value.tuple xs.toArray = .tuple #[] := h
    injection h with h
    have : xs = [] := by simpa using congrArg Array.toList h
    subst this
    exact ⟨rfl, fun i hi => absurd hi (Nat.not_lt_zero i)⟩
  | .tcons a b, xs, hb, ⟨y, ys, e, h1, h2⟩ => by
    injection e with e
    have : xs = y :: ys := by simpa using congrArg Array.toList e
    subst this
    obtain ⟨g1, g2⟩ := tup_ra (a := b) hb h2
    refine ⟨by simp [listA, g1], fun i hi => ?_⟩
    cases i with
    | zero => exact ⟨y, rfl, h1⟩
    | succ i => exact g2 i (by simpa [listA] using hi)
  | .un, _, h, _ => by cases h
  | .und, _, h, _ => by cases h
  | .v _ _, _, h, _ => by cases h
  | .nls, _, h, _ => by cases h
  | .nlp, _, h, _ => by cases h
  | .row _, _, h, _ => by cases h
  | .cut _ _ _, _, h, _ => by cases h
  | .adr _ _ _ _ _, _, h, _ => by cases h
  | .ref _ _, _, h, _ => by cases h
  | .box _ _, _, h, _ => by cases h
  | .str _, _, h, _ => by cases h
/-- What is lent, as the callee sees it. -/
theorem toW_ird (H : Rel ρ w0 U0 own fx hd0 st a w hd) {u : T} {x : A} {v : Value} {y : u.den} (h : A.toW st.ob u x = some y) (hx : RA ρ (Us U0 st.ob.length hd) w hd x v) {U' : Nat → Prop} (hU : ∀ b, b < w.heap.size → U' b → Us U0 st.ob.length hd b)
    (hrow : ∀ i ∈ x.rowsW, ∀ b, blk (hd i) = some b → ¬ U' b) : IRd ρ U' w u v y := by
  cases x with
  | str t =>
    simp only [A.toW] at h
    split at h
    · rename_i hc
      simp only [Bool.and_eq_true, beq_iff_eq] at hc
      obtain ⟨⟨c1, c2⟩, c3⟩ := hc
      obtain ⟨xs, rfl, _, hx⟩ := hx
      obtain ⟨g1, g2⟩ := tup_ra c2 hx
      obtain ⟨ds, k1, k2⟩ := gathV_ok H hU g2 hrow h
      have e : xs = ds := by
        refine List.ext_getElem? (fun j => ?_)
        rcases Nat.lt_or_ge j u.size with hj | hj
        · have := k2 j hj
          rwa [Nat.zero_add] at this
        · rw [List.getElem?_eq_none (by omega), List.getElem?_eq_none (by rw [ICs.length k1]; omega)]
      subst e
      exact ⟨xs, (pack_agg c1 xs).symm, k1⟩
    · cases h
  | _ =>
    simp only [A.toW] at h
    simp only [A.rowsW] at hrow
    exact toV_ird H h hx hU hrow
theorem toV_rows {ob : List Ob} {u : T} {x : A} {y : u.den} (h : A.toV ob u x = some y) : ∀ i ∈ x.rowOf, ∃ e t, ∃ ys : List t.den, atn Ob.gone ob i = .row e t ys := fun i hi => by
  cases x with
  | row j =>
    simp only [A.rowOf, List.mem_singleton] at hi
    subst hi
    simp only [A.toV] at h
    split at h
    · rename_i hat; exact ⟨_, _, _, hat⟩
    · cases h
  | cut j n f =>
    simp only [A.rowOf, List.mem_singleton] at hi
    subst hi
    simp only [A.toV] at h
    split at h
    · rename_i hat; exact ⟨_, _, _, hat⟩
    · cases h
  | _ => simp [A.rowOf] at hi
theorem gathV_rows {ob : List Ob} {l : List A} : ∀ {t : T} {c : Nat} {y : t.den}, gathV ob l t c = some y → ∀ j, c ≤ j → j < c + t.size → ∀ i ∈ (atn .un l j).rowOf, ∃ e t, ∃ ys : List t.den, atn Ob.gone ob i = .row e t ys := by
  have one : ∀ {u : T}, u.size = 1 → ∀ {c : Nat} {y : u.den}, A.toV ob u (atn .un l c) = some y → ∀ j, c ≤ j → j < c + u.size → ∀ i ∈ (atn .un l j).rowOf, ∃ e t, ∃ ys : List t.den, atn Ob.gone ob i = .row e t ys := fun {u} hs {c} {y} e j h1 h2 => by
    obtain rfl : j = c := by omega
    exact toV_rows e
  intro t
  induction t with
  | pair a b iha ihb =>
    intro c y e j h1 h2
    unfold gathV at e
    split at e
    · rename_i x1 x2 g1 g2
      have hs : (T.pair a b).size = a.size + b.size := rfl
      by_cases hj : j < c + a.size
      · exact iha g1 j h1 hj
      · exact ihb g2 j (by omega) (by omega)
    · cases e
  | one t ih => intro c y e; exact ih e
  | int k => intro c y e; exact one rfl e
  | bool => intro c y e; exact one rfl e
  | flt => intro c y e; exact one rfl e
  | list t _ => intro c y e; exact one rfl e
  | obj n => intro c y e; exact one rfl e
  | ptr t _ => intro c y e; exact one rfl e
theorem toW_rows {ob : List Ob} {u : T} {x : A} {y : u.den} (h : A.toW ob u x = some y) : ∀ i ∈ x.rowsW, ∃ e t, ∃ ys : List t.den, atn Ob.gone ob i = .row e t ys := by
  cases x with
  | str t =>
    simp only [A.toW] at h
    split at h
    · rename_i hc
      simp only [Bool.and_eq_true, beq_iff_eq] at hc
      intro i hi
      simp only [A.rowsW, List.mem_flatMap] at hi
      obtain ⟨x, hx, hi⟩ := hi
      obtain ⟨j, hj, rfl⟩ := atn_idxU (d := .un) hx
      exact gathV_rows h j (Nat.zero_le _) (by omega) i hi
    · cases h
  | _ =>
    simp only [A.toW] at h
    simp only [A.rowsW]
    exact toV_rows h
/-- The arguments of a call, out of the caller's state. -/
theorem args_ok (H : Rel ρ w0 U0 own fx hd0 st a w hd) {Uc : Nat → Prop} {hdc : Nat → Value} (hUc : ∀ b, b < w.heap.size → Uc b → Us U0 st.ob.length hd b) : ∀ (ps : List PM) (xs : List A) (vs : List Value) (d : Ds (ps.map PM.ty)) (n : Nat), args st.ob ps xs = some d → All2 (RA ρ (Us U0 st.ob.length hd) w hd) xs vs →
    (∀ q, q < (ownArgs st.ob ps xs).length → hdc (n + q) = hd (atn 0 (ownArgs st.ob ps xs) q)) → (∀ i ∈ valRows ps xs, ∀ b, blk (hd i) = some b → ¬ Uc b) → ArgsOk ρ Uc w hdc ps d vs n ∧ (∀ i ∈ ownArgs st.ob ps xs, i < st.ob.length)
  | [], [], [], d, n, _, _, _, _ => ⟨trivial, fun i hi => by cases hi⟩
  | [], [], _ :: _, _, _, _, h, _, _ => h.elim
  | [], _ :: _, _, _, _, h, _, _, _ => by simp [args] at h
  | .val t :: ps, [], vs, d, n, h, _, _, _ => by simp [args] at h
  | .own e t :: ps, [], vs, d, n, h, _, _, _ => by simp [args] at h
  | .bx e fs :: ps, [], vs, d, n, h, _, _, _ => by simp [args] at h
  | .nbx e fs :: ps, [], vs, d, n, h, _, _, _ => by simp [args] at h
  | .cutp e t :: ps, [], vs, d, n, h, _, _, _ => by simp [args] at h
  | .cutp e t :: ps, x :: xs, v :: vs, d, n, h, ha, hq, hv => by
    obtain ⟨i, m, l, ys, rfl, hat, hys, rfl⟩ := args_cut h
    have hi := row_lt hat
    have h0 := hq 0 (by simp [ownArgs])
    simp only [ownArgs, atn, Nat.add_zero] at h0
    obtain ⟨h1, h2⟩ := args_ok H hUc ps xs vs ys (n + 1) hys ha.2 (fun q hq' => by
      have := hq (q + 1) (by simpa [ownArgs] using hq')
      rw [show n + 1 + q = n + (q + 1) by omega]
      simpa [ownArgs, atn] using this) (fun j hj => hv j (by simpa [valRows] using hj))
    have hro := H.ob i hi
    rw [hat] at hro
    have ht : Tr (Us U0 st.ob.length hd) w Uc w := Tr.of (V := fun _ => False) (Ag.refl _ _) (fun _ _ h => h.elim) hUc
    refine ⟨⟨cut_ra (i := i) ha.1 h0, by rw [h0]; exact ro_row hro (fun b hb => ⟨rfl, Nat.zero_le _⟩) (Tk.of ht), h1⟩, fun j hj => ?_⟩
    rcases List.mem_cons.1 hj with rfl | hj
    · exact hi
    · exact h2 j hj
  | .nbx e fs :: ps, x :: xs, vs, d, n, h, _, _, _ => by simp [args] at h
  | p :: ps, x :: xs, [], d, n, _, h, _, _ => h.elim
  | .val t :: ps, x :: xs, v :: vs, d, n, h, ha, hq, hv => by
    simp only [args] at h
    split at h
    · rename_i y ys hy hys
      cases h
      have e : ownArgs st.ob (.val t :: ps) (x :: xs) = ownArgs st.ob ps xs := by cases x <;> rfl
      rw [e] at hq ⊢
      have hv2 : ∀ i ∈ valRows ps xs, ∀ b, blk (hd i) = some b → ¬ Uc b := fun i hi => hv i (by simp [valRows, hi])
      obtain ⟨h1, h2⟩ := args_ok H hUc ps xs vs ys n hys ha.2 hq hv2
      exact ⟨⟨toW_ird H hy ha.1 hUc (fun i hi => hv i (by simp [valRows, hi])), h1⟩, h2⟩
    · cases h
  | .own e t :: ps, x :: xs, v :: vs, d, n, h, ha, hq, hv => by
    cases x with
    | row i =>
      simp only [args] at h
      split at h
      · rename_i e' u l hat
        split at h
        · rename_i hu
          obtain ⟨rfl, rfl⟩ := hu
          split at h
          · rename_i ys hys
            cases h
            have hi := row_lt hat
            have h0 := hq 0 (by simp [ownArgs])
            simp only [ownArgs, atn, Nat.add_zero] at h0
            obtain ⟨h1, h2⟩ := args_ok H hUc ps xs vs ys (n + 1) hys ha.2 (fun q hq' => by
              have := hq (q + 1) (by simpa [ownArgs] using hq')
              rw [show n + 1 + q = n + (q + 1) by omega]
              simpa [ownArgs, atn] using this) (fun j hj => hv j (by simpa [valRows] using hj))
            have hro := H.ob i hi
            rw [hat] at hro
            have ht : Tr (Us U0 st.ob.length hd) w Uc w := Tr.of (V := fun _ => False) (Ag.refl _ _) (fun _ _ h => h.elim) hUc
            have ev1 : v = hd i := ha.1
            refine ⟨⟨by rw [h0]; exact ev1, by rw [ev1]; exact ro_row hro (fun b hb => ⟨rfl, Nat.zero_le _⟩) (Tk.of ht), h1⟩, fun j hj => ?_⟩
            rcases List.mem_cons.1 hj with rfl | hj
            · exact hi
            · exact h2 j hj
          · cases h
        · cases h
      · cases h
    | _ => simp [args] at h
  | .bx e fs :: ps, x :: xs, v :: vs, d, n, h, ha, hq, hv => by
    obtain ⟨i, l, y, ys, rfl, hat, hrd, hys, rfl⟩ := args_bx h
    have hcl := cells_of hat
    have ok := readF_ok hrd
    have hrl := okF_len ok
    have eo : ownArgs st.ob (.bx e fs :: ps) (.box i 0 :: xs) = i :: (rIdx fs l ++ ownArgs st.ob ps xs) := by simp only [ownArgs, hcl]
    rw [eo] at hq ⊢
    have hi : i < st.ob.length := ob_lt (by rw [hat]; simp)
    have hro := H.ob i hi
    rw [hat] at hro
    have ht : Tr (Us U0 st.ob.length hd) w Uc w := Tr.of (V := fun _ => False) (Ag.refl _ _) (fun _ _ h => h.elim) hUc
    have h0 : hdc n = hd i := hq 0 (by simp)
    have hqr : ∀ q, q < fsN fs → hdc (n + 1 + q) = hd (atn 0 (rIdx fs l) q) := fun q hq' => by
      have := hq (q + 1) (by simp; omega)
      rw [show atn 0 (i :: (rIdx fs l ++ ownArgs st.ob ps xs)) (q + 1) = atn 0 (rIdx fs l ++ ownArgs st.ob ps xs) q from rfl, atn_app_left (by omega)] at this
      rw [show n + 1 + q = n + (q + 1) by omega]
      exact this
    obtain ⟨h1, h2⟩ := args_ok H hUc ps xs vs ys (n + (1 + fsN fs)) hys ha.2 (fun q hq' => by
      have := hq (1 + (rIdx fs l).length + q) (by simp; omega)
      rw [show atn 0 (i :: (rIdx fs l ++ ownArgs st.ob ps xs)) (1 + (rIdx fs l).length + q) = atn 0 (rIdx fs l ++ ownArgs st.ob ps xs) ((rIdx fs l).length + q) from by rw [show 1 + (rIdx fs l).length + q = ((rIdx fs l).length + q) + 1 by omega]; rfl, atn_app_right] at this
      rw [show n + (1 + fsN fs) + q = n + (1 + (rIdx fs l).length + q) by omega]
      exact this) (fun j hj => hv j (by simpa [valRows] using hj))
    have hrlt : ∀ j ∈ rIdx fs l, j < st.ob.length := fun j hj => H.wo i j (by rw [hat]; exact rIdx_refs j hj)
    have ev1 : v = hd i := by
      obtain ⟨b, e1, e2⟩ := ha.1
      rw [e1]; exact e2
    refine ⟨⟨by rw [h0]; exact ev1, ⟨?_, fun q hq' => ?_⟩, h1⟩, fun j hj => ?_⟩
    · rw [h0]
      exact ro_cells hro (fun b _ => Nat.zero_le _) (by rw [fsA_len, okF_alen ok]) (readF_ra ht (n + 1) hrd hqr)
    · rw [readF_row ok hrd q hq', hqr q hq']
      have hj := atn_mem_of (l := rIdx fs l) (q := q) (by omega)
      have hro2 := H.ob _ (hrlt _ hj)
      obtain ⟨e3, t3, xs3, f1, f2⟩ := fsO_row fs y q hq'
      rw [readF_row ok hrd q hq'] at f1
      rw [f1] at hro2 ⊢
      exact ro_row hro2 (fun b hb => ⟨rfl, Nat.zero_le _⟩) (Tk.of ht)
    · simp only [List.mem_cons, List.mem_append] at hj
      rcases hj with rfl | hj | hj
      · exact hi
      · exact hrlt j hj
      · exact h2 j hj
theorem one_tup {Un : Nat → Prop} {w' : World} {hdn : Nat → Value} : ∀ {l : List A} {vs : List Value}, All2 (RA ρ Un w' hdn) l vs → RA ρ Un w' hdn (tupA l) (.tuple vs.toArray)
  | [], [], _ => rfl
  | [], _ :: _, h => h.elim
  | _ :: _, [], h => h.elim
  | x :: l, v :: vs, h => ⟨v, vs, rfl, h.1, one_tup h.2⟩
theorem one_ra {Un : Nat → Prop} {w' : World} {hdn : Nat → Value} {l : List A} {vs : List Value} (h : All2 (RA ρ Un w' hdn) l vs) : RA ρ Un w' hdn (oneA l) (oneV vs) := by
  cases l with
  | nil => cases vs with
    | nil => rfl
    | cons _ _ => exact h.elim
  | cons x l => cases vs with
    | nil => exact h.elim
    | cons v vs => cases l with
      | nil => cases vs with
        | nil => exact h.1
        | cons _ _ => exact h.2.elim
      | cons y l => cases vs with
        | nil => exact h.2.elim
        | cons u vs => exact one_tup h
theorem one_refs {n : Nat} : ∀ {l : List A}, (∀ x ∈ l, ∀ j ∈ x.refs, j < n) → ∀ j ∈ (tupA l).refs, j < n
  | [], _, j, hj => by simp [tupA, A.refs] at hj
  | x :: l, h, j, hj => by
    simp only [tupA, A.refs, List.mem_append] at hj
    rcases hj with hj | hj
    · exact h x (by simp) j hj
    · exact one_refs (fun y hy => h y (by simp [hy])) j hj
theorem one_refs' {n : Nat} {l : List A} (h : ∀ x ∈ l, ∀ j ∈ x.refs, j < n) : ∀ j ∈ (oneA l).refs, j < n := by
  cases l with
  | nil => exact one_refs h
  | cons x l => cases l with
    | nil => exact h x (by simp)
    | cons y l => exact one_refs h
theorem ro_up {U : Nat → Prop} {w : World} {hd : Nat → Value} {B B' : Nat} {x : Ob} {v : Value} (h : RO ρ U w hd B x v) (hb : ∀ b, blk v = some b → B' ≤ b) : RO ρ U w hd B' x v := by
  cases x with
  | row e t xs =>
    obtain ⟨cs, ⟨g1, g2⟩, h2⟩ := h
    refine ⟨cs, ⟨g1, g2.imp id ?_⟩, h2⟩
    rintro ⟨g, cap, cur, e1, e2, e3⟩
    exact ⟨g, cap, cur, e1, hb g (by rw [e1]; rfl), e3⟩
  | cells e l =>
    obtain ⟨b, vs, rfl, h1, h2⟩ := h
    exact ⟨b, vs, rfl, hb b rfl, h2⟩
  | gone => exact h
/-- What is new lies in new memory. -/
theorem rets_ge {w' : World} {Uc : Nat → Prop} {hdc : Nat → Value} {B : Nat} : ∀ (rs : List PM) (d : Ds (rs.map PM.ty)) (vs : List Value) (n : Nat), RetsOk ρ Uc w' hdc B rs d vs n → ∀ q, q < nOwn rs → ∀ b, blk (hdc (n + q)) = some b → B ≤ b
  | [], _, _, _, _, q, hq, _, _ => by simp [nOwn] at hq
  | .val t :: rs, d, [], n, h, _, _, _, _ => h.elim
  | .own e t :: rs, d, [], n, h, _, _, _, _ => h.elim
  | .bx e fs :: rs, d, [], n, h, _, _, _, _ => h.elim
  | .bx e fs :: rs, d, v :: vs, n, h, _, _, _, _ => h.elim
  | .cutp e t :: rs, d, [], n, h, _, _, _, _ => h.elim
  | .cutp e t :: rs, d, v :: vs, n, h, q, hq, b, hb => by
    obtain ⟨q1, q2, q3⟩ := h
    cases q with
    | zero => rw [Nat.add_zero] at hb; exact (q2.blk_ge hb).1
    | succ q =>
      refine rets_ge rs d.2 vs (n + 1) q3 q (by simp [nOwn] at hq; omega) b ?_
      rw [show n + 1 + q = n + (q + 1) by omega]
      exact hb
  | .nbx e fs :: rs, d, [], n, h, _, _, _, _ => h.elim
  | .val t :: rs, d, v :: vs, n, h, q, hq, b, hb => rets_ge rs d.2 vs n h.2 q hq b hb
  | .own e t :: rs, d, v :: vs, n, h, q, hq, b, hb => by
    obtain ⟨q1, q2, q3⟩ := h
    cases q with
    | zero => rw [Nat.add_zero, ← q1] at hb; exact (q2.blk_ge hb).1
    | succ q =>
      refine rets_ge rs d.2 vs (n + 1) q3 q (by simp [nOwn] at hq; omega) b ?_
      rw [show n + 1 + q = n + (q + 1) by omega]
      exact hb
  | .nbx e fs :: rs, d, v :: vs, n, h, q, hq, b, hb => by
    obtain ⟨d1, d2⟩ := d
    obtain ⟨q1, q3⟩ := h
    rcases Nat.lt_or_ge q (1 + fsN fs) with hq1 | hq1
    · cases d1 with
      | none =>
        rw [q1.2 q hq1] at hb; simp [blk, nilV] at hb
      | some x =>
        obtain ⟨_, m1, m2⟩ := q1
        rcases Nat.eq_zero_or_pos q with hz | hz
        · subst hz
          rw [Nat.add_zero] at hb
          exact (m1.blk_ge hb).1
        · have m3 := m2 (q - 1) (by omega)
          rw [show n + 1 + (q - 1) = n + q by omega] at m3
          exact (m3.blk_ge hb).1
    · refine rets_ge rs d2 vs (n + (1 + fsN fs)) q3 (q - (1 + fsN fs)) (by simp only [nOwn] at hq; omega) b ?_
      rw [show n + (1 + fsN fs) + (q - (1 + fsN fs)) = n + q by omega]
      exact hb
theorem idxOf : ∀ {l : List Nat} {i : Nat}, i ∈ l → posOf i l < l.length ∧ atn 0 l (posOf i l) = i
  | x :: l, i, h => by
    simp only [posOf]
    split
    · rename_i e; exact ⟨by simp, e⟩
    · rename_i e
      obtain ⟨h1, h2⟩ := idxOf (l := l) (i := i) ((List.mem_cons.1 h).resolve_left (fun k => e k.symm))
      exact ⟨by simpa using h1, h2⟩
theorem mIdx_sub : ∀ {fs : List Fd} {l : List A}, ∀ j ∈ mIdx fs l, j ∈ rIdx fs l
  | [], l, j, h => by cases l <;> simp [mIdx] at h
  | .v t :: fs, [], j, h => by simp [mIdx] at h
  | .r e t mv :: fs, [], j, h => by simp [mIdx] at h
  | .v t :: fs, x :: l, j, h => mIdx_sub (fs := fs) (l := l) j h
  | .r e t mv :: fs, x :: l, j, h => by
    cases x with
    | row i =>
      simp only [mIdx] at h
      simp only [rIdx, List.mem_cons]
      split at h
      · rcases List.mem_cons.1 h with rfl | h
        · exact .inl rfl
        · exact .inr (mIdx_sub (fs := fs) j h)
      · exact .inr (mIdx_sub (fs := fs) j h)
    | _ => exact mIdx_sub (fs := fs) (l := l) j (by simpa [mIdx] using h)
theorem movArgs_sub {ob : List Ob} : ∀ {ps : List PM} {xs : List A}, ∀ j ∈ movArgs ob ps xs, j ∈ ownArgs ob ps xs
  | [], xs, j, h => by cases xs <;> simp [movArgs] at h
  | p :: ps, [], j, h => by cases p <;> simp [movArgs] at h
  | p :: ps, x :: xs, j, h => by
    have hrec := movArgs_sub (ob := ob) (ps := ps) (xs := xs) j
    cases p with
    | val t => have : ownArgs ob (.val t :: ps) (x :: xs) = ownArgs ob ps xs := by cases x <;> rfl
               rw [this]; exact hrec (by cases x <;> simpa [movArgs] using h)
    | nbx e fs => have : ownArgs ob (.nbx e fs :: ps) (x :: xs) = ownArgs ob ps xs := by cases x <;> rfl
                  rw [this]; exact hrec (by cases x <;> simpa [movArgs] using h)
    | own e t =>
      have h' := hrec (by cases x <;> simpa [movArgs] using h)
      cases x <;> simp [ownArgs, h']
    | cutp e t =>
      have h' := hrec (by cases x <;> simpa [movArgs] using h)
      cases x <;> simp [ownArgs, h']
    | bx e fs =>
      cases x with
      | box i k =>
        simp only [movArgs, List.mem_append] at h
        simp only [ownArgs, List.mem_cons, List.mem_append]
        rcases h with h | h
        · exact .inr (.inl (mIdx_sub j h))
        · exact .inr (.inr (hrec h))
      | _ => simpa [ownArgs] using hrec (by simpa [movArgs] using h)
/-- Which of a struct's rows may move. -/
theorem mIdx_fix : ∀ {fs : List Fd} {l : List A}, okF fs l = true → ∀ q, q < fsN fs → atn 0 (rIdx fs l) q ∉ mIdx fs l → nodupB (rIdx fs l) = true → atn true (fsFix fs) q = true
  | [], [], _, q, hq, _, _ => by simp [fsN] at hq
  | [], _ :: _, ok, _, _, _, _ => by simp [okF] at ok
  | .v t :: fs, [], ok, _, _, _, _ => by simp [okF] at ok
  | .r e t mv :: fs, [], ok, _, _, _, _ => by simp [okF] at ok
  | .v t :: fs, x :: l, ok, q, hq, hm, hn => mIdx_fix (fs := fs) (l := l) ok q hq hm hn
  | .r e t mv :: fs, x :: l, ok, q, hq, hm, hn => by
    cases x <;> simp only [okF] at ok <;> first | cases ok | skip
    rename_i j
    cases q with
    | zero =>
      simp only [rIdx, atn, mIdx] at hm
      cases mv with
      | true => simp at hm
      | false => rfl
    | succ q =>
      obtain ⟨_, n2⟩ := nodupB_cons (x := j) (l := rIdx fs l) hn
      refine mIdx_fix (fs := fs) (l := l) ok q (by simp only [fsN] at hq; omega) (fun h => hm ?_) n2
      simp only [rIdx, atn, mIdx]
      split
      · exact List.mem_cons_of_mem _ h
      · exact h
theorem fsFix_len : ∀ fs : List Fd, (fsFix fs).length = fsN fs
  | [] => rfl
  | .v _ :: fs => fsFix_len fs
  | .r _ _ _ :: fs => by simp [fsFix, fsN, fsFix_len fs]
/-- What may not move has its place. -/
theorem fix_arg {ob : List Ob} : ∀ (ps : List PM) (xs : List A) {d : Ds (ps.map PM.ty)}, args ob ps xs = some d → nodupB (ownArgs ob ps xs) = true → ∀ q, q < (ownArgs ob ps xs).length → atn 0 (ownArgs ob ps xs) q ∉ movArgs ob ps xs → fxP ps q = true
  | [], xs, d, _, _, q, hq, _ => by cases xs <;> simp [ownArgs] at hq
  | .val t :: ps, [], d, h, _, _, _, _ => by simp [args] at h
  | .own e t :: ps, [], d, h, _, _, _, _ => by simp [args] at h
  | .bx e fs :: ps, [], d, h, _, _, _, _ => by simp [args] at h
  | .cutp e t :: ps, [], d, h, _, _, _, _ => by simp [args] at h
  | .cutp e t :: ps, x :: xs, d, h, hn, q, hq, hm => by
    obtain ⟨i, m, l, ys, rfl, hat, hys, rfl⟩ := args_cut h
    cases q with
    | zero => rfl
    | succ q => exact fix_arg ps xs hys (nodupB_cons (x := i) hn).2 q (by simpa [ownArgs] using hq) hm
  | .nbx e fs :: ps, xs, d, h, _, _, _, _ => by cases xs <;> simp [args] at h
  | .val t :: ps, x :: xs, d, h, hn, q, hq, hm => by
    have e1 : ownArgs ob (.val t :: ps) (x :: xs) = ownArgs ob ps xs := by cases x <;> rfl
    have e2 : movArgs ob (.val t :: ps) (x :: xs) = movArgs ob ps xs := by cases x <;> rfl
    rw [e1] at hn hq hm
    rw [e2] at hm
    simp only [args] at h
    split at h
    · rename_i y ys hy hys
      exact fix_arg ps xs hys hn q hq hm
    · cases h
  | .own e t :: ps, x :: xs, d, h, hn, q, hq, hm => by
    cases x with
    | row i =>
      cases q with
      | zero => rfl
      | succ q =>
        have ha' : ∃ da', args ob ps xs = some da' := by
          simp only [args] at h
          split at h
          · split at h
            · split at h
              · rename_i ys hys; exact ⟨ys, hys⟩
              · cases h
            · cases h
          · cases h
        obtain ⟨da', ha'⟩ := ha'
        exact fix_arg ps xs ha' (nodupB_cons (x := i) hn).2 q (by simpa [ownArgs] using hq) hm
    | _ => simp [args] at h
  | .bx e fs :: ps, x :: xs, d, h, hn, q, hq, hm => by
    obtain ⟨i, l, y, ys, rfl, hat, hrd, hys, rfl⟩ := args_bx h
    have hcl := cells_of hat
    have ok := readF_ok hrd
    have hrl := okF_len ok
    have eo : ownArgs ob (.bx e fs :: ps) (.box i 0 :: xs) = i :: (rIdx fs l ++ ownArgs ob ps xs) := by simp only [ownArgs, hcl]
    have em : movArgs ob (.bx e fs :: ps) (.box i 0 :: xs) = mIdx fs l ++ movArgs ob ps xs := by simp only [movArgs, hcl]
    rw [eo] at hn hq hm
    rw [em] at hm
    obtain ⟨n1, n2⟩ := nodupB_cons hn
    obtain ⟨n3, n4, n5⟩ := nodupB_app n2
    cases q with
    | zero => rfl
    | succ q =>
      rw [show atn 0 (i :: (rIdx fs l ++ ownArgs ob ps xs)) (q + 1) = atn 0 (rIdx fs l ++ ownArgs ob ps xs) q from rfl] at hm
      show atn true (fsFix fs ++ fixL ps) q = true
      rw [atn_append, fsFix_len]
      rcases Nat.lt_or_ge q (fsN fs) with h1 | h1
      · rw [if_pos h1]
        rw [atn_app_left (by omega)] at hm
        exact mIdx_fix ok q h1 (fun k => hm (by simp [k])) n3
      · rw [if_neg (by omega)]
        have e3 : q = (rIdx fs l).length + (q - fsN fs) := by omega
        rw [e3, atn_app_right] at hm
        exact fix_arg ps xs hys n4 (q - fsN fs) (by simp at hq; omega) (fun k => hm (by simp [k]))
/-- A call, its arguments being known. X: the blocks of the rows that it reads. -/
theorem all2_to {ρ ρ' : Obs} (er : ρ'.rel = ρ.rel) {U : Nat → Prop} {w : World} {hd : Nat → Value} (ks : ∀ w'', Ag (Orp U ρ'.V) w w'' → Ag (Orp U ρ.V) w w'') : ∀ {l : List A} {vs : List Value}, All2 (RA ρ U w hd) l vs → All2 (RA ρ' U w hd) l vs
  | [], [], _ => trivial
  | [], _ :: _, h => h.elim
  | _ :: _, [], h => h.elim
  | _ :: _, _ :: _, h => ⟨RA.to er ks h.1, all2_to er ks h.2⟩
theorem call_core {R : Type} {r : R} {k : St → Option R} {f : FuncId} {s : Sig} (hs : Sound P ρ f s) (hK : KOk ρ (Us U0 own hd0) w0) (H : Rel ρ w0 U0 own fx hd0 st a w hd) {o : List Ob} {xs : List A} {vs : List Value} {d : Ds (s.ps.map PM.ty)} {dst : Option Tmp} (X : Nat → Prop) (hX : (∀ b, ¬ X b) ∨ s.fresh = true ∨ (anyLed s.rs = false ∧ ownLed s.ps = false))
    (hn : nodupB (ownArgs o s.ps xs) = true) (hos : ∀ i ∈ ownArgs o s.ps xs, i < st.ob.length) (hpre : s.pre d = true) (hda : args o s.ps xs = some d)
    (hargs : ∀ (Uc : Nat → Prop) (hdc : Nat → Value), (∀ b, b < w.heap.size → Uc b → Us U0 st.ob.length hd b) → (∀ b, X b → ¬ Uc b) → (∀ q, q < (ownArgs o s.ps xs).length → hdc q = hd (atn 0 (ownArgs o s.ps xs) q)) → ∀ V2 : Nat → Prop, (∀ b, V2 b → b < w.heap.size ∧ (Us U0 st.ob.length hd b ∨ ρ.V b)) → ArgsOk (ρ.on V2) Uc w hdc s.ps d vs 0)
    (hlen : (ownArgs o s.ps xs).length = nOwn s.ps) (hXo : ∀ i ∈ ownArgs o s.ps xs, ∀ b, blk (hd i) = some b → ¬ X b) (hfx : ∀ i ∈ movArgs o s.ps xs, i < own → fx i = false) (hmf : movFree st.ob st.tm (ownArgs o s.ps xs) (movArgs o s.ps xs) = true)
    {ob2 : List Ob} {rr : Ds (s.rs.map PM.ty)} (hg : giveBack o s.ps xs (s.fn d) st.ob = some (ob2, rr)) (h : resK s.rs rr ob2 (fun l ob3 => k (St.put ⟨st.tm, ob3⟩ dst (oneA l))) = some r) :
    Calls P f vs.toArray w fun e w' => ∃ v st' hd', e = .returned v ∧ k st' = some r ∧ Rel ρ w0 U0 own fx hd0 st' (a.put dst v) w' hd' ∧ (nOwn s.ps = 0 → Ag (fun _ => False) w w') := by
  have hdcdef : ∀ q, q < nOwn s.ps → (fun q => hd (atn 0 (ownArgs o s.ps xs) q)) q = hd (atn 0 (ownArgs o s.ps xs) q) := fun _ _ => rfl
  generalize hhdc : (fun q => hd (atn 0 (ownArgs o s.ps xs) q)) = hdc at hdcdef
  let Ux : Nat → Prop := fun b => Us U0 st.ob.length hd b ∧ (∀ i ∈ ownArgs o s.ps xs, blk (hd i) ≠ some b)
  let Ux0 : Nat → Prop := fun b => Ux b ∧ ¬ X b
  let Ux1 : Nat → Prop := fun b => Ux b ∧ (s.fresh = false → ¬ X b)
  have hux : ∀ b, Ux b → b < w.heap.size ∧ ∀ i, i < nOwn s.ps → blk (hdc i) ≠ some b := by
    rintro b ⟨hu, hno⟩
    refine ⟨?_, fun i hi => by rw [hdcdef i hi]; exact hno _ (atn_mem_of (by omega))⟩
    rcases hu with hu | ⟨i, hi, hib⟩
    · exact Nat.lt_of_lt_of_le (H.u0 b hu).1 H.ag.size
    · exact H.lt hi hib
  have hUc : ∀ b, b < w.heap.size → Us Ux0 (nOwn s.ps) hdc b → Us U0 st.ob.length hd b := by
    rintro b _ (hu | ⟨q, hq, hqb⟩)
    · exact hu.1.1
    · rw [hdcdef q hq] at hqb
      exact .inr ⟨_, hos _ (atn_mem_of (by omega)), hqb⟩
  have hXU : ∀ b, X b → ¬ Us Ux0 (nOwn s.ps) hdc b := by
    rintro b hb (hu | ⟨q, hq, hqb⟩)
    · exact hu.2 hb
    · rw [hdcdef q hq] at hqb
      exact hXo _ (atn_mem_of (by omega)) b hqb hb
  let V2 : Nat → Prop := fun b => b < w.heap.size ∧ (Us U0 st.ob.length hd b ∨ ρ.V b)
  have ha := hargs (Us Ux0 (nOwn s.ps) hdc) hdc hUc hXU (fun q hq => hdcdef q (by omega)) V2 (fun b hb => hb)
  have hk2 := (H.kok hK).tr (Tr.of (V := fun _ => False) (Ag.refl _ _) (fun _ _ h => h.elim) hUc)
  refine (hs d hpre w Ux0 Ux1 V2 hdc vs (fun b hb => hux b hb.1) (fun b hb => hux b hb.1) (fun hf b hb => ⟨hb.1, hb.2 hf⟩) (fun i j hi hj hij b hbi => ?_) ⟨hk2.all, fun b hb => hb.1⟩ ha).mono ?_
  · rw [hdcdef i hi] at hbi
    rw [hdcdef j hj]
    exact H.ne _ _ (hos _ (atn_mem_of (by omega))) (hos _ (atn_mem_of (by omega))) (fun e => hij (nodup_inj hn i j (by omega) (by omega) e)) b hbi
  · rintro e w' ⟨rvs, hd', rfl, hag, hkeep, hkp, hap, hmut, hret⟩
    have hmovsub : ∀ i ∈ movArgs o s.ps xs, i ∈ ownArgs o s.ps xs := movArgs_sub
    -- where the caller's objects lie behind the call
    let hdn : Nat → Value := fun i => if (ownArgs o s.ps xs).contains i = true then hd' (posOf i (ownArgs o s.ps xs)) else if i < st.ob.length then hd i else hd' (nOwn s.ps + (i - st.ob.length))
    have hdnO : ∀ i ∈ ownArgs o s.ps xs, hdn i = hd' (posOf i (ownArgs o s.ps xs)) := fun i hi => by
      simp only [hdn]
      rw [if_pos (by simpa using hi)]
    have hdnQ : ∀ q, q < (ownArgs o s.ps xs).length → hdn (atn 0 (ownArgs o s.ps xs) q) = hd' q := fun q hq => by
      have hm := atn_mem_of hq
      rw [hdnO _ hm]
      obtain ⟨p1, p2⟩ := idxOf hm
      rw [nodup_inj hn _ _ p1 hq p2]
    have hdn1 : ∀ i, i < st.ob.length → i ∉ movArgs o s.ps xs → hdn i = hd i := fun i hi hnm => by
      by_cases hin : i ∈ ownArgs o s.ps xs
      · obtain ⟨p1, p2⟩ := idxOf hin
        have hf := fix_arg s.ps xs hda hn (posOf i (ownArgs o s.ps xs)) p1 (by rw [p2]; exact hnm)
        rw [hdnO i hin, hkeep _ (by omega) hf, hdcdef _ (by omega), p2]
      · simp only [hdn]
        rw [if_neg (by simpa using hin), if_pos hi]
    have hdn2 : ∀ i, st.ob.length ≤ i → hdn i = hd' (nOwn s.ps + (i - st.ob.length)) := fun i hi => by
      simp only [hdn]
      rw [if_neg (fun hc => by
        have := hos i (by simpa using hc)
        omega), if_neg (by omega)]
    have hmvb : ∀ i ∈ ownArgs o s.ps xs, ∀ b, blk (hdn i) = some b → blk (hd i) = some b ∨ w.heap.size ≤ b := fun i hi b hb => by
      obtain ⟨p1, p2⟩ := idxOf hi
      rw [hdnO i hi] at hb
      have := hkp _ (by omega) b hb
      rw [hdcdef _ (by omega), p2] at this
      exact this
    have hag' : Ag (fun b => ∃ i ∈ ownArgs o s.ps xs, blk (hd i) = some b) w w' := hag.mono (fun b _ hb => by
      rcases hb with hb | ⟨q, hq, hqb⟩
      · exact hb.elim
      · rw [hdcdef q hq] at hqb
        exact ⟨_, atn_mem_of (by omega), hqb⟩)
    -- the caller's changing blocks are the callee's
    have hUn : ∀ (n3 : Nat), n3 = st.ob.length + nOwn s.rs → ∀ b, b < w'.heap.size → Us U0 n3 hdn b → Us Ux1 (nOwn s.ps + nOwn s.rs) hd' b ∨ (V2 b ∧ ((∀ b, ¬ X b) ∨ s.fresh = true → Us Ux1 (nOwn s.ps + nOwn s.rs) hd' b)) := by
      intro n3 hn3 b hb hu
      subst hn3
      by_cases hnew' : ∃ i ∈ ownArgs o s.ps xs, blk (hdn i) = some b
      · obtain ⟨i, hi, hib⟩ := hnew'
        obtain ⟨p1, p2⟩ := idxOf hi
        rw [hdnO i hi] at hib
        exact .inl (.inr ⟨_, by omega, hib⟩)
      · by_cases hown' : ∃ i ∈ ownArgs o s.ps xs, blk (hd i) = some b
        · -- a block that an argument left: nobody's any more
          exfalso
          obtain ⟨i, hi, hib⟩ := hown'
          have hlt := H.lt (hos i hi) hib
          rcases hu with hu | ⟨j, hj, hjb⟩
          · exact H.u0n (hos i hi) hib hu
          · by_cases hjo : j ∈ ownArgs o s.ps xs
            · exact hnew' ⟨j, hjo, hjb⟩
            · rcases Nat.lt_or_ge j st.ob.length with hjl | hjl
              · rw [hdn1 j hjl (fun h => hjo (hmovsub j h))] at hjb
                exact H.ne j i hjl (hos i hi) (fun e => hjo (e ▸ hi)) b hjb hib
              · rw [hdn2 j hjl] at hjb
                have := rets_ge s.rs _ rvs _ hret (j - st.ob.length) (by omega) b hjb
                omega
        · rcases hu with hu | ⟨i, hi, hib⟩
          · exact .inr ⟨⟨Nat.lt_of_lt_of_le (H.u0 b hu).1 H.ag.size, .inl (.inl hu)⟩, fun hx => .inl ⟨⟨.inl hu, fun i hi hib => hown' ⟨i, hi, hib⟩⟩, fun hf => hx.elim (fun h => h b) (fun h => by rw [hf] at h; cases h)⟩⟩
          · by_cases hio : i ∈ ownArgs o s.ps xs
            · exact absurd ⟨i, hio, hib⟩ hnew'
            · rcases Nat.lt_or_ge i st.ob.length with hlt | hge
              · rw [hdn1 i hlt (fun h => hio (hmovsub i h))] at hib
                exact .inr ⟨⟨H.lt hlt hib, .inl (.inr ⟨i, hlt, hib⟩)⟩, fun hx => .inl ⟨⟨.inr ⟨i, hlt, hib⟩, fun j hj hjb => hown' ⟨j, hj, hjb⟩⟩, fun hf => hx.elim (fun h => h b) (fun h => by rw [hf] at h; cases h)⟩⟩
              · rw [hdn2 i hge] at hib
                exact .inl (.inr ⟨_, by omega, hib⟩)
    have hUn1 : (∀ b, ¬ X b) ∨ s.fresh = true → ∀ b, b < w'.heap.size → Us U0 (st.ob.length + nOwn s.rs) hdn b → Us Ux1 (nOwn s.ps + nOwn s.rs) hd' b := fun hx b hb hu => (hUn _ rfl b hb hu).elim id (fun h => h.2 hx)
    have hk0 : ∀ c : Bool, (anyLed s.rs = false ∧ ownLed s.ps = false → c = false) → Tk V2 (Us Ux1 (nOwn s.ps + nOwn s.rs) hd') w' (Us U0 (st.ob.length + nOwn s.rs) hdn) w' c := fun c hc => by
      refine ⟨?_, (Ag.refl (fun _ => False) w').back (fun _ _ h => h.elim) (fun b hb hu => ?_)⟩
      · rcases hX with h | h | h
        · exact .inl ((Ag.refl (fun _ => False) w').back (fun _ _ h => h.elim) (hUn1 (.inl h)))
        · exact .inl ((Ag.refl (fun _ => False) w').back (fun _ _ h => h.elim) (hUn1 (.inr h)))
        · exact .inr (hc h)
      · rcases hu with hu | hu
        · exact (hUn _ rfl b hb hu).imp id (fun h => h.1)
        · exact .inr hu
    have hback : ∀ w'', Ag (Orp (Us U0 (st.ob.length + nOwn s.rs) hdn) ρ.V) w' w'' → Ag (Orp (Us U0 (st.ob.length + nOwn s.rs) hdn) V2) w' w'' := (Ag.refl (fun _ => False) w').back (fun _ _ h => h.elim) (fun b hb hu => hu.imp id (fun hv => ⟨(H.kok hK).vlt b hv, .inr hv⟩))
    obtain ⟨h1, h2, h4, h5⟩ := giveBack_ok (hdn := hdn) o s.ps xs (s.fn d) st.ob 0 hg hda hos hn (hk0 _ (fun h => h.2)) hmut (fun q hq => by rw [Nat.zero_add]; exact hdnQ q hq)
    subst h1
    obtain ⟨l, ob3, g0, g1, g2, r1, r2, r3, r4⟩ := resK_ok (hdn := hdn) H.ag.size s.rs (dr (s.fn d)) rvs ob2 (nOwn s.ps) h (hk0 _ (fun h => h.1)) hret (fun q hq => by
      rw [hdn2 _ (by omega)]
      congr 1
      omega)
    rw [h2] at g1 g2 r3
    have hmfree : (∀ j ∈ movArgs o s.ps xs, (∀ x ∈ st.tm, j ∉ x.refs) ∧ ∀ i, i < st.ob.length → i ∉ ownArgs o s.ps xs → j ∉ (Ob.refs (atn .gone st.ob i))) := fun j hj => by
      unfold movFree at hmf
      simp only [List.all_eq_true, Bool.and_eq_true, Bool.not_eq_true', List.contains_eq_mem, List.mem_range, Bool.or_eq_true, decide_eq_true_eq, decide_eq_false_iff_not] at hmf
      obtain ⟨q1, q2⟩ := hmf j hj
      exact ⟨q1, fun i hi hio => (q2 i hi).resolve_left hio⟩
    have HJ := H.jump (ms := movArgs o s.ps xs) hmovsub hfx hag' hos (ob' := ob3) (hd' := hdn) (by omega) hdn1 (fun i hi => hmvb i (hmovsub i hi)) (fun i j hj hjm => by
        rcases Nat.lt_or_ge i st.tm.length with hi | hi
        · exact (hmfree j hjm).1 _ (atn_mem .un _ i hi) hj
        · rw [atn_out _ _ _ hi] at hj; simp [A.refs] at hj) (fun i hi hio j hj hjm => (hmfree j hjm).2 i hi hio hj) (fun i hi hn' => by rw [g2 i (by omega), h4 i hn']) (fun i hi hor => by
      rcases hor with hin | hge
      · have hi' := hos i hin
        rw [g2 i (by omega)]
        have hro := RO.to (ρ := ρ.on V2) (ρ' := ρ) rfl hback (h5 i hin).1
        rw [g1] 
        refine ro_up hro (fun b hb => ?_)
        rcases hmvb i hin b hb with h6 | h6
        · exact ((H.ob i hi').blk_ge h6).1
        · split
          · exact Nat.zero_le _
          · exact Nat.le_trans H.ag.size h6
      · rw [if_neg (by have := H.ow; omega), g1]
        exact RO.to (ρ := ρ.on V2) (ρ' := ρ) rfl hback (r3 i hge (by omega)).1) (fun i hi1 hi2 b hb => by
      rw [hdn2 i hi1] at hb
      exact r4 (i - st.ob.length) (by omega) b hb) (fun i j hi hj ho1 ho2 hij b hb => by
      have pos : ∀ i, i < ob3.length → (i ∈ movArgs o s.ps xs ∨ st.ob.length ≤ i) → ∃ p, p < nOwn s.ps + nOwn s.rs ∧ hdn i = hd' p ∧ ((i ∈ ownArgs o s.ps xs ∧ p = posOf i (ownArgs o s.ps xs)) ∨ (st.ob.length ≤ i ∧ p = nOwn s.ps + (i - st.ob.length))) := fun i hi hor => by
        rcases hor with hm | hge
        · obtain ⟨p1, p2⟩ := idxOf (hmovsub i hm)
          exact ⟨_, by omega, hdnO i (hmovsub i hm), .inl ⟨hmovsub i hm, rfl⟩⟩
        · exact ⟨_, by omega, hdn2 i hge, .inr ⟨hge, rfl⟩⟩
      obtain ⟨p, p1, p2, p3⟩ := pos i hi ho1
      obtain ⟨q, q1, q2, q3⟩ := pos j hj ho2
      rw [p2] at hb
      rw [q2]
      refine hap p q p1 q1 (fun e => ?_) b hb
      rcases p3 with ⟨p4, p5⟩ | ⟨p4, p5⟩ <;> rcases q3 with ⟨q4, q5⟩ | ⟨q4, q5⟩
      · have e1 := (idxOf p4).2
        have e2 := (idxOf q4).2
        rw [← p5, e, q5, e2] at e1
        exact hij e1.symm
      · have := (idxOf p4).1; omega
      · have := (idxOf q4).1; omega
      · omega) (fun i hor j hj => by
      rcases hor with hin | hge
      · rw [g2 i (hos i hin)] at hj
        have := hos j ((h5 i hin).2 j hj)
        omega
      · rcases Nat.lt_or_ge i ob3.length with hlt | hge2
        · have := (r3 i hge (by omega)).2 j hj
          omega
        · rw [atn_out _ _ _ hge2] at hj
          simp [Ob.refs] at hj)
    refine ⟨oneV rvs, _, hdn, rfl, g0, HJ.put (one_ra (by rw [g1]; exact all2_to (ρ := ρ.on V2) (ρ' := ρ) rfl hback r1)) (one_refs' r2) dst, fun h0 => hag.mono (fun b _ hb => ?_)⟩
    rcases hb with hb | ⟨q, hq, _⟩
    · exact hb
    · omega
theorem frz_row {st : St} {i j : Nat} {e : TypeId} {t : T} {xs : List t.den} (h : atn Ob.gone st.ob j = .row e t xs) (hij : j ≠ i) : atn Ob.gone (st.frz i).ob j = .row e t xs := by
  unfold St.frz
  split
  · simp only
    rw [atn_setn, if_neg (fun hc => hij hc.1.symm), atn_mapn _ _ (ofrz_gone _ _), h]
    rfl
  · exact h
theorem frzAll_ok : ∀ (l : List Nat) (st : St) (hd : Nat → Value), Rel ρ w0 U0 own fx hd0 st a w hd → (∀ i ∈ l, own ≤ i) → ∃ hd1, Rel ρ w0 U0 own fx hd0 (frzAll l st) a w hd1 ∧ (frzAll l st).ob.length = st.ob.length ∧ (∀ i, i ∉ l → hd1 i = hd i) ∧ (∀ b, Us U0 st.ob.length hd1 b → Us U0 st.ob.length hd b) ∧
    ∀ i ∈ l, (∃ e t, ∃ xs : List t.den, atn .gone st.ob i = .row e t xs) → ∀ b, blk (hd i) = some b → ¬ Us U0 st.ob.length hd1 b
  | [], st, hd, H, _ => ⟨hd, H, rfl, fun _ _ => rfl, fun _ h => h, fun i hi => by cases hi⟩
  | i :: l, st, hd, H, ho => by
    cases hat : atn Ob.gone st.ob i with
    | row e t xs =>
      have hm := row_lt hat
      have H1 := H.frz hat (ho i (by simp))
      have hlen1 : (st.frz i).ob.length = st.ob.length := by simp only [St.frz, hat]; rw [length_setn, length_mapn]
      obtain ⟨hd1, q1, q2, q3, q4, q5⟩ := frzAll_ok l (st.frz i) _ H1 (fun j hj => ho j (by simp [hj]))
      rw [hlen1] at q2 q4 q5
      have hus : ∀ b, Us U0 st.ob.length (upd hd i nilV) b → Us U0 st.ob.length hd b := by
        rintro b (hu | ⟨q, hq, hqb⟩)
        · exact .inl hu
        · by_cases e : q = i
          · subst e; rw [upd_same, blk_nilV] at hqb; cases hqb
          · rw [upd_ne e] at hqb; exact .inr ⟨q, hq, hqb⟩
      refine ⟨hd1, q1, q2, fun j hj => ?_, fun b hb => hus b (q4 b hb), fun j hj hrow b hb hu => ?_⟩
      · rw [q3 j (fun h => hj (by simp [h])), upd_ne (fun e => hj (by simp [e]))]
      · by_cases e : j = i
        · subst e
          exact us_drop H hm b hb (q4 b hu)
        · have hj' : j ∈ l := by simpa [e] using hj
          obtain ⟨e', t', xs', hr⟩ := hrow
          exact q5 j hj' ⟨e', t', xs', frz_row hr e⟩ b (by rw [upd_ne e]; exact hb) hu
    | cells e l' =>
      have h1 : st.frz i = st := by simp only [St.frz, hat]
      have := frzAll_ok l st hd H (fun j hj => ho j (by simp [hj]))
      simp only [frzAll, h1]
      obtain ⟨hd1, q1, q2, q3, q4, q5⟩ := this
      refine ⟨hd1, q1, q2, fun j hj => q3 j (fun h => hj (by simp [h])), q4, fun j hj hrow => ?_⟩
      rcases List.mem_cons.1 hj with rfl | hj
      · obtain ⟨_, _, _, hr⟩ := hrow; rw [hat] at hr; cases hr
      · exact q5 j hj hrow
    | gone =>
      have h1 : st.frz i = st := by simp only [St.frz, hat]
      have := frzAll_ok l st hd H (fun j hj => ho j (by simp [hj]))
      simp only [frzAll, h1]
      obtain ⟨hd1, q1, q2, q3, q4, q5⟩ := this
      refine ⟨hd1, q1, q2, fun j hj => q3 j (fun h => hj (by simp [h])), q4, fun j hj hrow => ?_⟩
      rcases List.mem_cons.1 hj with rfl | hj
      · obtain ⟨_, _, _, hr⟩ := hrow; rw [hat] at hr; cases hr
      · exact q5 j hj hrow
theorem val_rows : ∀ (ps : List PM) (xs : List A) (d : Ds (ps.map PM.ty)), args st.ob ps xs = some d → ∀ i ∈ valRows ps xs, ∃ e t, ∃ ys : List t.den, atn Ob.gone st.ob i = .row e t ys
  | [], [], _, _, i, hi => by simp [valRows] at hi
  | [], _ :: _, _, h, _, _ => by simp [args] at h
  | .val t :: ps, [], _, h, _, _ => by simp [args] at h
  | .own e t :: ps, [], _, h, _, _ => by simp [args] at h
  | .bx e fs :: ps, [], _, h, _, _ => by simp [args] at h
  | .cutp e t :: ps, [], _, h, _, _ => by simp [args] at h
  | .cutp e t :: ps, x :: xs, d, h, i, hi => by
    obtain ⟨q, m, l, ys, rfl, hat, hys, rfl⟩ := args_cut h
    exact val_rows ps xs ys hys i (by simpa [valRows] using hi)
  | .nbx e fs :: ps, [], _, h, _, _ => by simp [args] at h
  | .nbx e fs :: ps, x :: xs, _, h, _, _ => by simp [args] at h
  | .bx e fs :: ps, x :: xs, d, h, i, hi => by
    obtain ⟨q, l, y, ys, rfl, hat, hrd, hys, rfl⟩ := args_bx h
    exact val_rows ps xs ys hys i (by simpa [valRows] using hi)
  | .val t :: ps, x :: xs, d, h, i, hi => by
    simp only [args] at h
    split at h
    · rename_i y ys hy hys
      simp only [valRows, List.mem_append] at hi
      rcases hi with hi | hi
      · exact toW_rows hy i hi
      · exact val_rows ps xs ys hys i hi
    · cases h
  | .own e t :: ps, x :: xs, d, h, i, hi => by
    cases x with
    | row j =>
      simp only [args] at h
      split at h
      · split at h
        · split at h
          · rename_i ys hys
            exact val_rows ps xs ys hys i (by simpa [valRows] using hi)
          · cases h
        · cases h
      · cases h
    | _ => simp [args] at h
theorem own_len : ∀ (ps : List PM) (xs : List A) (d : Ds (ps.map PM.ty)) {ob : List Ob}, args ob ps xs = some d → (ownArgs ob ps xs).length = nOwn ps
  | [], [], _, _, _ => rfl
  | [], _ :: _, _, _, h => by simp [args] at h
  | .val t :: ps, [], _, _, h => by simp [args] at h
  | .own e t :: ps, [], _, _, h => by simp [args] at h
  | .bx e fs :: ps, [], _, _, h => by simp [args] at h
  | .cutp e t :: ps, [], _, _, h => by simp [args] at h
  | .cutp e t :: ps, x :: xs, d, ob, h => by
    obtain ⟨q, m, l, ys, rfl, hat, hys, rfl⟩ := args_cut h
    simp [ownArgs, nOwn, own_len ps xs ys hys]
  | .nbx e fs :: ps, xs, _, _, h => by cases xs <;> simp [args] at h
  | .bx e fs :: ps, x :: xs, d, ob, h => by
    obtain ⟨q, l, y, ys, rfl, hat, hrd, hys, rfl⟩ := args_bx h
    simp only [ownArgs, cells_of hat, List.length_cons, List.length_append, okF_len (readF_ok hrd), own_len ps xs ys hys, nOwn]
    omega
  | .val t :: ps, x :: xs, d, ob, h => by
    simp only [args] at h
    split at h
    · rename_i y ys hy hys
      have e : ownArgs ob (.val t :: ps) (x :: xs) = ownArgs ob ps xs := by cases x <;> rfl
      rw [e]
      exact own_len ps xs ys hys
    · cases h
  | .own e t :: ps, x :: xs, d, ob, h => by
    cases x with
    | row j =>
      simp only [args] at h
      split at h
      · split at h
        · split at h
          · rename_i ys hys
            simp [ownArgs, nOwn, own_len ps xs ys hys]
          · cases h
        · cases h
      · cases h
    | _ => simp [args] at h
/-- Any call. -/
theorem call_sound {R : Type} {r : R} {k : St → Option R} {E : Env} (hE : E.own = own) (hF : ∀ i, E.fx i = fx i) (hK : KOk ρ (Us U0 own hd0) w0) (hsg : ∀ f s, findSig E.sg f = some s → Sound P ρ f s) (H : Rel ρ w0 U0 own fx hd0 st a w hd) {f : FuncId} {xs : List A} {vs : List Value} {dst : Option Tmp} (ha : All2 (RA ρ (Us U0 st.ob.length hd) w hd) xs vs)
    (h : callZ E f xs dst st k = some r) : ∃ s, findSig E.sg f = some s ∧ Calls P f vs.toArray w fun e w' => ∃ v st' hd', e = .returned v ∧ k st' = some r ∧ Rel ρ w0 U0 own fx hd0 st' (a.put dst v) w' hd' ∧ (nOwn s.ps = 0 → Ag (fun _ => False) w w') := by
  unfold callZ at h
  simp only [letZ] at h
  split at h
  · rename_i s hf
    refine ⟨s, hf, ?_⟩
    split at h
    · rename_i hc
      simp only [Bool.and_eq_true, List.all_eq_true, Bool.not_eq_true', List.contains_eq_mem, Bool.or_eq_true, decide_eq_true_eq] at hc
      obtain ⟨⟨⟨hn, hov⟩, hl⟩, hmx⟩ := hc
      have hfx : ∀ i ∈ movArgs st.ob s.ps xs, i < own → fx i = false := fun i hi ho => by
        rcases hmx i hi with h1 | h1
        · rw [hE] at h1; omega
        · rw [← hF]; exact h1
      split at h
      · rename_i d hd'
        split at h
        · rename_i hpre
          have hlen := own_len s.ps xs d hd'
          have hos := (args_ok H (Uc := fun b => Us U0 st.ob.length hd b ∧ ∀ i ∈ valRows s.ps xs, blk (hd i) ≠ some b) (hdc := fun q => hd (atn 0 (ownArgs st.ob s.ps xs) q)) (fun b _ hb => hb.1) s.ps xs vs d 0 hd' ha (fun q _ => by rw [Nat.zero_add]) (fun i hi b hb hn => hn.2 i hi hb)).2
          have hvr := val_rows s.ps xs d hd'
          have hks : ∀ V2 : Nat → Prop, (∀ b, V2 b → b < w.heap.size ∧ (Us U0 st.ob.length hd b ∨ ρ.V b)) → ∀ w'', Ag (Orp (Us U0 st.ob.length hd) V2) w w'' → Ag (Orp (Us U0 st.ob.length hd) ρ.V) w w'' := fun V2 h4 => (Ag.refl (fun _ => False) w).back (fun _ _ h => h.elim) (fun b _ hu => hu.elim .inl (fun hv => (h4 b hv).2))
          have hov' : ∀ i ∈ ownArgs st.ob s.ps xs, i ∉ valRows s.ps xs := fun i hi hv => by have := hov i hi; simp [hv] at this
          cases hled : s.led with
          | false =>
            rw [hled] at h
            simp only [Bool.false_eq_true, if_false] at h
            split at h
            · rename_i hmf
              split at h
              · rename_i ob2 rr hg
                refine call_core (hsg f s hf) hK H (fun b => ∃ i ∈ valRows s.ps xs, blk (hd i) = some b) (.inr ?_) hn hos hpre hd' (fun Uc hdc h1 h2 h3 V2 h4 => (args_ok (Rel.to (ρ := ρ) (ρ' := ρ.on V2) rfl (hks V2 h4) H) h1 s.ps xs vs d 0 hd' (all2_to (ρ := ρ) (ρ' := ρ.on V2) rfl (hks V2 h4) ha) (fun q hq => by rw [Nat.zero_add]; exact h3 q hq) (fun i hi b hb => h2 b ⟨i, hi, hb⟩)).1) hlen (fun i hi b hb ⟨j, hj, hjb⟩ => ?_) hfx hmf hg h
                · cases hfr : s.fresh with
                  | true => exact .inl rfl
                  | false =>
                    simp only [Sig.led, hfr, Bool.not_false, Bool.true_and, Bool.or_eq_false_iff] at hled
                    exact .inr hled
                · obtain ⟨_, _, _, hr⟩ := hvr j hj
                  exact H.ne i j (hos i hi) (row_lt hr) (fun e => hov' i hi (e ▸ hj)) b hb hjb
              · cases h
            · cases h
          | true =>
            rw [hled] at h hl
            simp only [if_true] at h
            have hl' : ∀ i ∈ valRows s.ps xs, own ≤ i := fun i hi => by
              rcases hl with hl | hl
              · cases hl
              · rw [← hE]; exact hl i hi
            obtain ⟨hd1, q1, q2, q3, q4, q5⟩ := frzAll_ok (valRows s.ps xs) st hd H hl'
            split at h
            · rename_i hmf
              split at h
              · rename_i ob2 rr hg
                refine call_core (hsg f s hf) hK q1 (fun _ => False) (.inl (fun _ h => h)) hn (fun i hi => by rw [q2]; exact hos i hi) hpre hd' (fun Uc hdc h1 _ h3 V2 h4 => ?_) hlen (fun _ _ _ _ h => h) hfx hmf hg h
                rw [q2] at h1 h4
                have h4' : ∀ b, V2 b → b < w.heap.size ∧ (Us U0 st.ob.length hd b ∨ ρ.V b) := fun b hb => ⟨(h4 b hb).1, (h4 b hb).2.imp (q4 b) id⟩
                refine (args_ok (Rel.to (ρ := ρ) (ρ' := ρ.on V2) rfl (hks V2 h4') H) (fun b hb hu => q4 b (h1 b hb hu)) s.ps xs vs d 0 hd' (all2_to (ρ := ρ) (ρ' := ρ.on V2) rfl (hks V2 h4') ha) (fun q hq => ?_) (fun i hi b hb hu => ?_)).1
                · rw [Nat.zero_add, h3 q hq, q3 _ (hov' _ (atn_mem_of hq))]
                · have hlt : b < w.heap.size := by
                    obtain ⟨_, _, _, hr⟩ := hvr i hi
                    exact H.lt (row_lt hr) hb
                  exact q5 i hi (hvr i hi) b hb (h1 b hlt hu)
              · cases h
            · cases h
        · cases h
      · cases h
    · cases h
  · cases h
end
end Go.Proofs.YthbojpaghbbnnaaDoor.Z
namespace Go.Proofs.YthbojpaghbbnnaaDoor.Z
open Go Go.RowKit
set_option linter.unusedVariables false
set_option linter.unusedSimpArgs false
section
variable {P : Program} {ρ : Obs} {w : World} {hd : Nat → Value} {w0 : World} {U0 : Nat → Prop} {own : Nat} {fx : Nat → Bool} {hd0 : Nat → Value} {st : St} {a : Act} {R : Type} {r : R}
/-- A call of f enters f's body. -/
def Enters (P : Program) (f : FuncId) : Prop := ∀ args w, (callFunc f args).run P w = .ok (.enter f args) w
theorem enters_of {f : FuncId} {fn : Func} (hf : P.funcs[f]? = some fn) (hn : (fn.name == "runtime.NumGoroutine") = false) (hb : fn.body.isNone = false) : Enters P f := fun args w => by
  have hn' : ¬ fn.name = "runtime.NumGoroutine" := by simpa using hn
  cases hbb : fn.body with
  | none => rw [hbb] at hb; cases hb
  | some c => simp [callFunc, hf, hn', hbb, go_sem]
/-- What an environment says is so. -/
structure EnvOk (P : Program) (ρ : Obs) (E : Env) : Prop where
  tab : TabOk P E.tab
  sg : ∀ f s, findSig E.sg f = some s → Enters P f ∧ Sound P ρ f s
/-- Does it leave old memory as it was? -/
def quietOp (E : Env) : Op → Bool
  | .store _ _ _ => false
  | .call ⟨.builtin .append, _, _⟩ => false
  | .call ⟨.value (.func f), _, _⟩ => match findSig E.sg f with
    | some s => nOwn s.ps == 0
    | none => false
  | _ => true
theorem wp_value {o : Oper} {N : Act → World → Prop} {Q : Exit → Act → World → Prop} {v : Value} {w' : World} (h : (execOp a.eval o).run P w = .ok (.value v) w') (hN : N (a.put o.dst v) w') : o.wp P a w N Q := by
  unfold Oper.wp
  rw [h]
  exact hN
theorem atn_getElem {α : Type} (d : α) : ∀ (l : List α) (i : Nat) (h : i < l.length), atn d l i = l[i]
  | [], i, h => by simp at h
  | _ :: _, 0, _ => rfl
  | _ :: l, i + 1, h => by simp only [atn, List.getElem_cons_succ]; exact atn_getElem d l i (by simpa using h)
/-- A new struct variable. -/
theorem Rel.newBox (H : Rel ρ w0 U0 own fx hd0 st a w hd) {e : TypeId} {l : List A} {cs : List Value} (h : All2 (fun x v => v.oneCell' = true ∧ RA ρ (Us U0 st.ob.length hd) w hd x v ∧ x.refs = []) l cs) (d : Option Tmp) :
    Rel ρ w0 U0 own fx hd0 (St.put ⟨st.tm, st.ob ++ [.cells e l]⟩ d (.box st.ob.length 0)) (a.put d (.pointer (some ⟨w.heap.size, 0, none⟩))) (w.alloc (.cells cs.toArray e)) (upd hd st.ob.length (.pointer (some ⟨w.heap.size, 0, none⟩))) := by
  have k : Ag (fun _ => False) w (w.alloc (.cells cs.toArray e)) := ⟨rfl, rfl, rfl, by simp, fun b hb _ => Below.heap_alloc w _ b hb⟩
  have hb : ∀ b, blk (Value.pointer (some ⟨w.heap.size, 0, none⟩)) = some b → w.heap.size ≤ b := fun b hb => by
    have : w.heap.size = b := by simpa [blk] using hb
    omega
  have ht : Tr (Us U0 st.ob.length hd) w (Us U0 (st.ob.length + 1) (upd hd st.ob.length (.pointer (some ⟨w.heap.size, 0, none⟩)))) (w.alloc (.cells cs.toArray e)) := Tr.of k (fun _ _ h => h.elim) (us_new hb)
  obtain ⟨h1, h2⟩ := all2_atn h
  have hno : ∀ j ∈ (Ob.cells e l).refs, j < st.ob.length := fun j hj => by
    obtain ⟨y, hy, hjy⟩ := List.mem_flatMap.1 hj
    obtain ⟨i, hi, e1⟩ := List.getElem_of_mem hy
    obtain ⟨x, _, _, _, h5⟩ := h2 i hi
    have : atn A.un l i = y := by rw [← e1]; exact atn_getElem _ l i hi
    rw [this] at h5
    rw [h5] at hjy
    cases hjy
  have H1 := H.new k (o := .cells e l) (v := .pointer (some ⟨w.heap.size, 0, none⟩)) _ (fun i hi => upd_ne (by omega)) (upd_same _ _ _) hno hb ⟨w.heap.size, cs, rfl, H.ag.size, heap_alloc_new w _, h1, fun i hi => by
    obtain ⟨x, q1, q2, q3, q4⟩ := h2 i hi
    exact ⟨x, q1, q2, RA.tr ht (fun j hj => by rw [q4] at hj; cases hj) q3⟩⟩
  exact H1.put (x := .box st.ob.length 0) (v := .pointer (some ⟨w.heap.size, 0, none⟩)) ⟨w.heap.size, by simp [upd_same], rfl⟩ (by simp [A.refs]) d
/-- A new struct variable, rows among its cells. -/
theorem Rel.newStr (H : Rel ρ w0 U0 own fx hd0 st a w hd) {e : TypeId} {l : List A} {cs : List Value} (h : All2 (fun x v => v.oneCell' = true ∧ RA ρ (Us U0 st.ob.length hd) w hd x v) l cs) (hrf : ∀ j ∈ l.flatMap A.refs, j < st.ob.length) (d : Option Tmp) :
    Rel ρ w0 U0 own fx hd0 (St.put ⟨st.tm, st.ob ++ [.cells e l]⟩ d (.box st.ob.length 0)) (a.put d (.pointer (some ⟨w.heap.size, 0, none⟩))) (w.alloc (.cells cs.toArray e)) (upd hd st.ob.length (.pointer (some ⟨w.heap.size, 0, none⟩))) := by
  have k : Ag (fun _ => False) w (w.alloc (.cells cs.toArray e)) := ⟨rfl, rfl, rfl, by simp, fun b hb _ => Below.heap_alloc w _ b hb⟩
  have hb : ∀ b, blk (Value.pointer (some ⟨w.heap.size, 0, none⟩)) = some b → w.heap.size ≤ b := fun b hb => by
    have : w.heap.size = b := by simpa [blk] using hb
    omega
  have ht : Tr (Us U0 st.ob.length hd) w (Us U0 (st.ob.length + 1) (upd hd st.ob.length (.pointer (some ⟨w.heap.size, 0, none⟩)))) (w.alloc (.cells cs.toArray e)) := Tr.of k (fun _ _ h => h.elim) (us_new hb)
  obtain ⟨h1, h2⟩ := all2_atn h
  have H1 := H.new k (o := .cells e l) (v := .pointer (some ⟨w.heap.size, 0, none⟩)) _ (fun i hi => upd_ne (by omega)) (upd_same _ _ _) hrf hb ⟨w.heap.size, cs, rfl, H.ag.size, heap_alloc_new w _, h1, fun i hi => by
    obtain ⟨x, q1, q2, q3⟩ := h2 i hi
    exact ⟨x, q1, q2, RA.tr ht (fun j hj => upd_ne (by have := hrf j (List.mem_flatMap.2 ⟨_, atn_mem _ _ _ hi, hj⟩); omega)) q3⟩⟩
  exact H1.put (x := .box st.ob.length 0) (v := .pointer (some ⟨w.heap.size, 0, none⟩)) ⟨w.heap.size, by simp [upd_same], rfl⟩ (by simp [A.refs]) d
/-- What a list of operands leaves when all that is to be read for ever is frozen. -/
theorem thawAll_ok : ∀ (l : List A) (st : St) (hd : Nat → Value), Rel ρ w0 U0 own fx hd0 st a w hd → thawAllB own l = true → (∀ x ∈ l, ∀ j ∈ x.refs, j < st.ob.length) → ∃ hd1, Rel ρ w0 U0 own fx hd0 (thawAll l st) a w hd1 ∧ (thawAll l st).ob.length = st.ob.length ∧ (∀ b, Us U0 st.ob.length hd1 b → Us U0 st.ob.length hd b) ∧
    ∀ x ∈ l, ∀ {u : T} {v : Value} {y : u.den}, A.toV st.ob u x = some y → RA ρ (Us U0 st.ob.length hd) w hd x v → IRd ρ (Us U0 st.ob.length hd1) w u v y
  | [], st, hd, H, _, _ => ⟨hd, H, rfl, fun _ h => h, fun x hx => by cases hx⟩
  | x :: l, st, hd, H, hb, hr => by
    simp only [thawAllB, Bool.and_eq_true] at hb
    obtain ⟨hd', H', hlen, hne, hus, hval⟩ := H.thaw hb.1 (hr x (by simp))
    obtain ⟨hd1, q1, q2, q3, q4⟩ := thawAll_ok l (x.thaw st) hd' H' hb.2 (fun y hy j hj => by rw [hlen]; exact hr y (by simp [hy]) j hj)
    rw [hlen] at q2 q3
    refine ⟨hd1, q1, q2, fun b hb => hus b (q3 b hb), fun y hy u v z hz hra => ?_⟩
    have htr : Tr (Us U0 st.ob.length hd') w (Us U0 st.ob.length hd1) w := Tr.of (V := fun _ => False) (Ag.refl _ _) (fun _ _ h => h.elim) (fun b _ hb => q3 b hb)
    by_cases hyx : y = x
    · subst hyx
      exact (hval hz hra).tr htr
    · have hy' : y ∈ l := by simpa [hyx] using hy
      -- y names another row than x does, or the same: its content is known either way
      by_cases hshare : ∃ i ∈ y.rowOf, i ∈ x.rowOf
      · obtain ⟨i, hi, hix⟩ := hshare
        have hlt : i < st.ob.length := by
          cases y <;> simp [A.rowOf] at hi <;> subst hi <;> exact hr _ hy _ (by simp [A.refs])
        have hrow : ∃ e t, ∃ xs : List t.den, atn Ob.gone st.ob i = .row e t xs := by
          cases y <;> simp [A.rowOf] at hi <;> subst hi <;> simp only [A.toV] at hz <;> split at hz <;> first | (rename_i hat; exact ⟨_, _, _, hat⟩) | cases hz
        obtain ⟨e, t, xs, hat⟩ := hrow
        have hth : x.thaw st = st.frz i := by cases x <;> simp [A.rowOf] at hix <;> subst hix <;> rfl
        refine (toV_ird H hz hra (U' := Us U0 st.ob.length hd') (fun b _ hb => hus b hb) (fun j hj b hb hu => ?_)).tr htr
        have hji : j = i := by cases y <;> simp [A.rowOf] at hi hj <;> omega
        subst hji
        -- row j is frozen in hd'
        rcases hu with hu | ⟨q, hq, hqb⟩
        · exact H.u0n hlt hb hu
        · by_cases hqi : q = j
          · subst hqi
            have hro := H'.ob q (by rw [hlen]; exact hq)
            have hgone : atn Ob.gone (x.thaw st).ob q = .gone := by
              rw [hth]
              simp only [St.frz, hat]
              rw [atn_setn, if_pos ⟨rfl, by rw [length_mapn]; exact hlt⟩]
            rw [hgone] at hro
            rw [show hd' q = nilV from hro, blk_nilV] at hqb
            cases hqb
          · have hqx : q ∉ x.rowOf := fun hm => hqi (by cases x <;> simp [A.rowOf] at hix hm <;> omega)
            rw [hne q hqx] at hqb
            exact H.ne q j hq hlt hqi b hqb hb
      · have hno : ∀ i ∈ y.rowOf, i ∉ x.rowOf := fun i hi hix => hshare ⟨i, hi, hix⟩
        have hra' : RA ρ (Us U0 st.ob.length hd') w hd' y v := by
          have ht0 : Tr (Us U0 st.ob.length hd) w (Us U0 st.ob.length hd') w := Tr.of (V := fun _ => False) (Ag.refl _ _) (fun _ _ h => h.elim) (fun b _ hb => hus b hb)
          cases y with
          | row i => exact RA.tr ht0 (fun j hj => hne j (hno j (by simpa [A.refs, A.rowOf] using hj))) hra
          | cut i n f => exact RA.tr ht0 (fun j hj => hne j (hno j (by simpa [A.refs, A.rowOf] using hj))) hra
          | v t y => exact RA.tr ht0 (fun j hj => by cases hj) hra
          | nls => exact RA.tr ht0 (fun j hj => by cases hj) hra
          | nlp => exact RA.tr ht0 (fun j hj => by cases hj) hra
          | _ => simp [A.toV] at hz
        have hz' : A.toV (x.thaw st).ob u y = some z := by
          have hkeep : ∀ i ∈ y.rowOf, ∀ e t, ∀ xs : List t.den, atn Ob.gone st.ob i = .row e t xs → atn Ob.gone (x.thaw st).ob i = .row e t xs := fun i hi e t xs hat => by
            cases x with
            | row j => exact frz_row hat (fun e => hno i hi (by simp [A.rowOf, e]))
            | cut j n f => exact frz_row hat (fun e => hno i hi (by simp [A.rowOf, e]))
            | _ => exact hat
          cases y with
          | row i =>
            simp only [A.toV] at hz ⊢
            split at hz
            · rename_i e t xs hat
              rw [hkeep i (by simp [A.rowOf]) e t xs hat]
              exact hz
            · cases hz
          | cut i n f =>
            simp only [A.toV] at hz ⊢
            split at hz
            · rename_i e t xs hat
              rw [hkeep i (by simp [A.rowOf]) e t xs hat]
              exact hz
            · cases hz
          | v t y => exact hz
          | nls => exact hz
          | nlp => exact hz
          | _ => simp [A.toV] at hz
        rw [← hlen] at hra'
        have := q4 y hy' hz' hra'
        rw [hlen] at this
        exact this
/-- An operation that makes or changes memory. -/
theorem eff_sound {E : Env} (hE : EnvOk P ρ E) (ho : E.own = own) (hF : ∀ i, E.fx i = fx i) (hK : KOk ρ (Us U0 own hd0) w0) (H : Rel ρ w0 U0 own fx hd0 st a w hd) {o : Oper} {k : St → Option R} (h : effZ E o st k = some r) {N : Act → World → Prop} {Q : Exit → Act → World → Prop}
    (hN : ∀ st' a' w' hd', k st' = some r → Rel ρ w0 U0 own fx hd0 st' a' w' hd' → (quietOp E o.op = true → Ag (fun _ => False) w w') → N a' w') : o.wp P a w N Q := by
  obtain ⟨dst, op, type, pos, after, guard⟩ := o
  have he := H.ev_
  unfold effZ at h
  simp only at h hN
  split at h
  · rename_i f xs ts
    obtain ⟨s, hf, hc⟩ := call_sound ho hF hK (fun f s hs => (hE.sg f s hs).2) H (all2_map he xs.toList) h
    have hent := (hE.sg f s hf).1
    unfold Oper.wp
    have hr : (execOp a.eval ⟨dst, .call ⟨.value (.func f), xs, ts⟩, type, pos, after, guard⟩).run P w = .ok (.enter f (xs.map a.eval)) w := by
      have := hent (xs.map a.eval) w
      have hfv : a.eval (.func f) = .func (.func f) #[] #[] := rfl
      simp only [execOp, resolve, hfv, Deferred.ofValue, Sem.run_bind, Sem.run_pure, Result.andThen_ok, invoke, Array.append_empty, Array.empty_append, this]
    rw [hr]
    show Calls P f _ w _
    have e1 : (xs.toList.map a.eval).toArray = xs.map a.eval := by rw [← Array.toList_map, Array.toArray_toList]
    rw [← e1]
    refine hc.mono ?_
    rintro e w' ⟨v, st', hd', rfl, h1, h2, h3⟩
    refine hN _ _ _ _ h1 h2 (fun hq => h3 ?_)
    simp only [quietOp, hf] at hq
    simpa using hq
  · rename_i xs ts
    obtain ⟨xs⟩ := xs
    obtain ⟨ts⟩ := ts
    simp only at h
    split at h
    · rename_i x y t t'
      split at h
      · rename_i ht
        subst ht
        subst ho
        obtain ⟨st', v', w', hd', h1, h2, h3⟩ := append_sound hE.tab H h type
        refine wp_value (v := v') (w' := w') ?_ (hN _ _ _ _ h1 h3 (fun hq => by simp [quietOp] at hq))
        have h2' := h2
        simp only [execOp, resolve, invoke, builtin, Sem.run_bind, Sem.run_pure, Result.andThen_ok, List.map_toArray, List.map_cons, List.map_nil, h2']
      · cases h
    · cases h
  · rename_i t l c
    split at h
    · rename_i e i n m hel hl hc
      have el := IRd.int (hl ▸ he l)
      have ec := IRd.int (hc ▸ he c)
      split at h
      · rename_i hlc
        split at h
        · rename_i h0
          split at h
          · rename_i hb
            have : n = (0 : Int) := by
              unfold isZero at hlc
              split at hlc
              · rename_i n'
                simp only [ev, lit] at hl
                injection hl with _ hl
                have e0 : n' = 0 := by simpa using hlc
                rw [← hl, e0]
              · cases hlc
            subst this
            obtain ⟨v, w', h1, h2, h3⟩ := make_cap hE.tab hel h0 hb w
            refine wp_value (v := v) (w' := w') ?_ (hN _ _ _ _ h (H.newRow h3 (xs := []) (cs := []) h2 rfl dst) (fun _ => h3))
            simp only [execOp, Sem.run_bind, el, ec, h1, Result.andThen_ok, Sem.run_pure]
          · cases h
        · cases h
      · split at h
        · rename_i hnm
          subst hnm
          split at h
          · rename_i h0
            split at h
            · rename_i hb
              obtain ⟨v, w', h1, h2, h3⟩ := make_full hE.tab hel h0 hb w
              refine wp_value (v := v) (w' := w') ?_ (hN _ _ _ _ h (H.newRow h3 (by rw [List.length_replicate]; exact h2) (Els.replicate (zero_ics _) _) dst) (fun _ => h3))
              simp only [execOp, Sem.run_bind, el, ec, h1, Result.andThen_ok, Sem.run_pure]
            · cases h
          · cases h
        · cases h
    · cases h
  · rename_i t nn ps
    split at h
    · rename_i e i hel
      split at h
      · rename_i l hl
        split at h
        · rename_i hcnd
          obtain ⟨hlen, hnn, hth⟩ := hcnd
          rw [ho] at hth
          have hrf : ∀ x ∈ ps.toList.map (fun p => ev st p.2), ∀ j ∈ x.refs, j < st.ob.length := fun x hx => by
            obtain ⟨p, _, rfl⟩ := List.mem_map.1 hx
            exact H.refs p.2
          obtain ⟨hd1, q1, q2, q3, q4⟩ := thawAll_ok (ps.toList.map (fun p => ev st p.2)) st hd H hth hrf
          obtain ⟨vs, r1, r2, r3, r4⟩ := parts_all (ρ := ρ) (U := Us U0 st.ob.length hd1) (w := w) (st := st) (ev' := a.eval) st.ob (u := i.t) ps.toList 0 (fun p hp y hy => q4 _ (List.mem_map.2 ⟨p, hp, rfl⟩) hy (he p.2)) hl
          have hps : (ps.map fun (i, x) => (i, a.eval x)).toList = ((ps.toList.map fun p => a.eval p.2).zipIdx 0).map fun p => (p.2, p.1) := by
            rw [← r4]
            simp
          have hvl : vs.length = nn := by rw [r3]; exact hlen
          obtain ⟨v, w', s1, s2, s3⟩ := build_row hE.tab hel hps r1 (by rw [hvl]; exact hnn) w
          rw [← q2] at r2
          rw [hvl] at s1
          refine wp_value (v := v) (w' := w') ?_ (hN _ _ _ _ h (q1.newRow s3 (by rw [← r3]; exact s2) r2 dst) (fun _ => s3))
          simp only [execOp, Sem.run_bind, s1, Result.andThen_ok, Sem.run_pure]
        · cases h
      · cases h
    · cases h
  · rename_i e
    split at h
    · rename_i i hf
      obtain ⟨inf, i1, _, _, _, i5⟩ := hE.tab.info _ _ hf
      have hpc : (pack i.t (zeroC i.t)).cells = (zeroC i.t).toArray := pack_cs (zero_ics (ρ := ⟨fun _ _ _ _ => True, fun _ => False⟩) (U := fun _ => True) (w := w) i.t)
      have k0 : Ag (fun _ => False) w (w.alloc (.cells (zeroC i.t).toArray e)) := ⟨rfl, rfl, rfl, by simp, fun b hb _ => Below.heap_alloc w _ b hb⟩
      refine wp_value (v := .pointer (some ⟨w.heap.size, 0, none⟩)) (w' := w.alloc (.cells (zeroC i.t).toArray e)) ?_ (hN _ _ _ _ h (H.newBox (zero_all _ _ _ _) dst) (fun _ => k0))
      simp [execOp, Instr.alloc, zeroValue, typeInfo, i1, i5, newVar, Go.newRow, go_sem]
      exact congrArg (fun c => w.alloc (.cells c e)) hpc
    · cases h
  · rename_i e x
    split at h
    · rename_i sa hsa
      split at h
      · rename_i htup
        have hx := he x
        rw [hsa] at hx
        obtain ⟨vs, e1, h1, h2⟩ := hx
        have hrf := H.refs x
        rw [hsa] at hrf
        have k0 : Ag (fun _ => False) w (w.alloc (.cells vs.toArray e)) := ⟨rfl, rfl, rfl, by simp, fun b hb _ => Below.heap_alloc w _ b hb⟩
        refine wp_value (v := .pointer (some ⟨w.heap.size, 0, none⟩)) (w' := w.alloc (.cells vs.toArray e)) ?_ (hN _ _ _ _ h (H.newStr (listA_all htup h2 h1) (fun j hj => hrf j (listA_refs (a := sa) hj)) dst) (fun _ => k0))
        simp only [execOp, Instr.box, e1, newVar, Go.newRow, Value.cells, Sem.run_bind, Sem.run_pure, run_newObj_alloc, Result.andThen_ok]
      · cases h
    split at h
    · rename_i i hf
      split at h
      · rename_i y st1 hy
        split at h
        · rename_i hth
          rw [ho] at hth
          obtain ⟨hd', H', hlen, hne, hus, hval⟩ := H.thaw hth (H.refs x)
          obtain ⟨cs, e1, hcs⟩ := hval hy (he x)
          rw [← hlen] at hcs
          have k0 : Ag (fun _ => False) w (w.alloc (.cells cs.toArray e)) := ⟨rfl, rfl, rfl, by simp, fun b hb _ => Below.heap_alloc w _ b hb⟩
          refine wp_value (v := .pointer (some ⟨w.heap.size, 0, none⟩)) (w' := w.alloc (.cells cs.toArray e)) ?_ (hN _ _ _ _ h (H'.newBox (scat_all _ _ _ hcs) dst) (fun _ => k0))
          simp only [execOp, Instr.box, e1, newVar, Go.newRow, pack_cs hcs, Sem.run_bind, Sem.run_pure, run_newObj_alloc, Result.andThen_ok]
        · cases h
      · cases h
    · cases h
  · rename_i t ad x
    rw [ho] at h
    obtain ⟨st', w', hd', h1, h2, h3⟩ := store_sound hE.tab H h
    unfold Oper.wp
    have hr : (execOp a.eval ⟨dst, .store t ad x, type, pos, after, guard⟩).run P w = .ok .skip w' := by
      simp only [execOp, Sem.run_bind, h2, Result.andThen_ok, Sem.run_pure]
    rw [hr]
    exact hN _ _ _ _ h1 (h3.put (x := .und) (v := undef) rfl (by simp [A.refs]) dst) (fun hq => by simp [quietOp] at hq)
  · cases h
end
end Go.Proofs.YthbojpaghbbnnaaDoor.Z
namespace Go.Proofs.YthbojpaghbbnnaaDoor.Z
open Go Go.RowKit
set_option linter.unusedVariables false
set_option linter.unusedSimpArgs false
section
variable {P : Program} {ρ : Obs} {w : World} {hd : Nat → Value} {w0 : World} {U0 : Nat → Prop} {own : Nat} {fx : Nat → Bool} {hd0 : Nat → Value} {st : St} {a : Act} {R : Type} {r : R} {E : Env}
theorem softZ_ok {tab : Tab} {t : TypeId} {x : A} {st' : St} (H : Rel ρ w0 U0 own fx hd0 st a w hd) (h : softZ own tab st t x = some st') : ∃ hd', Rel ρ w0 U0 own fx hd0 st' a w hd' := by
  unfold softZ at h
  split at h
  · split at h
    · split at h
      · split at h
        · split at h
          · cases h
          · split at h
            · rename_i hall
              injection h with h
              subst h
              obtain ⟨hd1, H1, _⟩ := frzAll_ok _ st hd H (fun i hi => by simpa using List.all_eq_true.1 hall i hi)
              exact ⟨hd1, H1⟩
            · cases h
        · cases h
      · cases h
    · cases h
  · cases h
theorem soft_split {t : TypeId} {x : Operand} {d : Option Tmp} {k : St → Option R} (ho : E.own = own) (H : Rel ρ w0 U0 own fx hd0 st a w hd) (h : (match softE E st t (ev st x) with
    | none => loadZ E.tab st t (ev st x) (fun y => k (St.put st d y))
    | some st' => loadZ E.tab st' t (ev st' x) (fun y => k (St.put st' d y))) = some r) : ∃ st1 hd1, Rel ρ w0 U0 own fx hd0 st1 a w hd1 ∧ loadZ E.tab st1 t (ev st1 x) (fun y => k (St.put st1 d y)) = some r := by
  split at h
  · exact ⟨st, hd, H, h⟩
  · rename_i st1 hs
    unfold softE at hs
    split at hs
    case h_2 => cases hs
    rw [ho] at hs
    obtain ⟨hd1, H1⟩ := softZ_ok H hs
    exact ⟨st1, hd1, H1, h⟩
theorem op1_sound (hE : EnvOk P ρ E) (ho : E.own = own) (hF : ∀ i, E.fx i = fx i) (hK : KOk ρ (Us U0 own hd0) w0) (H : Rel ρ w0 U0 own fx hd0 st a w hd) {o : Oper} {k : St → Option R} (h : op1 E o st k = some r) {N : Act → World → Prop} {Q : Exit → Act → World → Prop}
    (hN : ∀ st' a' w' hd', k st' = some r → Rel ρ w0 U0 own fx hd0 st' a' w' hd' → (quietOp E o.op = true → Ag (fun _ => False) w w') → N a' w') : o.wp P a w N Q := by
  unfold op1 at h
  split at h
  · obtain ⟨z, v, h1, h2, h3, h4⟩ := pure_sound hE.tab h H.ev_ H.refs H.hdrs
    exact wp_value (h4 w) (hN _ _ _ _ h1 (H.put h2 h3 _) (fun _ => Ag.refl _ _))
  · split at h
    · rename_i t x hop
      obtain ⟨st, hd, H, h⟩ := soft_split ho H h
      obtain ⟨z, v, h1, h2, h3, h4⟩ := load_sound hE.tab H h
      refine wp_value (v := v) (w' := w) ?_ (hN _ _ _ _ h1 (H.put h2 h3 _) (fun _ => Ag.refl _ _))
      have := h4 w (Ag.refl _ _)
      simp only [execOp, hop, Sem.run_bind, this, Result.andThen_ok, Sem.run_pure]
    · exact eff_sound hE ho hF hK H h hN
theorem dstOf_eq : ∀ (l : List Oper) (j : Nat), dstOf l j = (l[j]?).bind (·.dst)
  | [], j => by simp [dstOf]
  | o :: l, 0 => by simp [dstOf]
  | o :: l, j + 1 => by simp [dstOf, dstOf_eq l j]
theorem setn_atn {α : Type} (d : α) : ∀ (l : List α) (i : Nat), setn (atn d l i) l i = l
  | [], _ => rfl
  | _ :: _, 0 => rfl
  | x :: l, i + 1 => congrArg (x :: ·) (setn_atn d l i)
theorem guard_ok (H : Rel ρ w0 U0 own fx hd0 st a w hd) {ops : Array Oper} {o : Oper} {k : St → Option R} (h : opG E ops.toList o st k = some r) : (Region.wanted o (yielded ops a.tmps) = true ∧ op1 E o st k = some r) ∨ (Region.wanted o (yielded ops a.tmps) = false ∧ k (St.put st o.dst .und) = some r) := by
  unfold opG at h
  split at h
  · rename_i hg
    exact .inl ⟨by simp [Region.wanted, hg], h⟩
  · rename_i j b hg
    split at h
    · rename_i d hd'
      have hdst : (ops[j]?).bind (·.dst) = some d := by
        have := dstOf_eq ops.toList j
        rw [hd'] at this
        rw [this]
        simp
      split at h
      · rename_i x hat
        have hlt : d < st.tm.length := by
          rcases Nat.lt_or_ge d st.tm.length with q | q
          · exact q
          · rw [atn_out _ _ _ q] at hat; cases hat
        have hlt2 : d < a.tmps.size := by rw [H.sz]; exact hlt
        have hv := H.sl d a.tmps[d] (Array.getElem?_eq_getElem hlt2)
        rw [hat] at hv
        have e1 := IRd.bool hv
        have hy : yielded ops a.tmps j = some x := by
          unfold yielded
          rw [hdst]
          simp [Array.getElem?_eq_getElem hlt2, e1]
        split at h
        · rename_i hxb
          subst hxb
          rw [show (⟨setn (.v .bool x) st.tm d, st.ob⟩ : St) = st from by rw [← hat, setn_atn]] at h
          exact .inl ⟨by simp [Region.wanted, hg, hy], h⟩
        · rename_i hxb
          have h := skipZ_some h
          have hx : x = !b := by cases x <;> cases b <;> first | rfl | exact absurd rfl hxb
          rw [← hx, show (⟨setn (.v .bool x) st.tm d, st.ob⟩ : St) = st from by rw [← hat, setn_atn]] at h
          exact .inr ⟨by simp [Region.wanted, hg, hy, hxb], h⟩
      · rename_i hat
        have hlt : d < st.tm.length := by
          rcases Nat.lt_or_ge d st.tm.length with q | q
          · exact q
          · rw [atn_out _ _ _ q] at hat; cases hat
        have hlt2 : d < a.tmps.size := by rw [H.sz]; exact hlt
        have hv := H.sl d a.tmps[d] (Array.getElem?_eq_getElem hlt2)
        rw [hat] at hv
        have e1 : a.tmps[d] = undef := hv
        have hy : yielded ops a.tmps j = none := by
          unfold yielded
          rw [hdst]
          simp [Array.getElem?_eq_getElem hlt2, e1, undef]
        exact .inr ⟨by simp [Region.wanted, hg, hy], h⟩
      · cases h
    · cases h
theorem opsL_sound (hE : EnvOk P ρ E) (ho : E.own = own) (hF : ∀ i, E.fx i = fx i) (hK : KOk ρ (Us U0 own hd0) w0) {ops : Array Oper} {Q : Exit → Act → World → Prop} {k : St → Option R} : ∀ (l : List Oper) {st : St} {a : Act} {w : World} {hd : Nat → Value}, Rel ρ w0 U0 own fx hd0 st a w hd → opsL E ops.toList l st k = some r →
    (∀ st' a' w' hd', k st' = some r → Rel ρ w0 U0 own fx hd0 st' a' w' hd' → Q .normal a' w') → wpList P ops Q l a w
  | [], st, a, w, hd, H, h, hk => hk _ _ _ _ h H
  | o :: l, st, a, w, hd, H, h, hk => by
    unfold wpList
    rcases guard_ok H h with ⟨h1, h2⟩ | ⟨h1, h2⟩
    · rw [if_pos h1]
      exact .inl (op1_sound hE ho hF hK H h2 (fun st' a' w' hd' h3 H' _ => opsL_sound hE ho hF hK l H' h3 hk))
    · rw [if_neg (by rw [h1]; simp)]
      exact opsL_sound hE ho hF hK l (H.put (x := .und) (v := undef) rfl (by simp [A.refs]) o.dst) h2 hk
/-- May a region be walked in this order? -/
def dAt (E : Env) (ops : Array Oper) (j : Nat) : Bool :=
  match ops[j]? with
  | some o => !quietOp E o.op
  | none => false
def chk (E : Env) (ops : Array Oper) : List Nat → Array Bool → Bool
  | [], l => (Region.ready .any ops l).isEmpty
  | i :: r, l => (match ops[i]? with
    | none => false
    | some o =>
      if isPure o.op = true then Region.free .any ops l i && (Region.ready .any ops l).contains i
      else if isLoad o.op = true then Region.free .any ops l i && (Region.ready .any ops l).contains i && (List.range ops.size).all (fun j => !(dAt E ops j) || l.getD j true || waitsOn .any ops ops.size j i)
      else Region.ready .any ops l == [i]) && chk E ops r (l.setIfInBounds i true)
theorem opsI_sound (hE : EnvOk P ρ E) (ho : E.own = own) (hF : ∀ i, E.fx i = fx i) (hK : KOk ρ (Us U0 own hd0) w0) {ops : Array Oper} {Q : Exit → Act → World → Prop} (hQ : ∀ c a d v w, Q (.panic c) (a.put d v) w → Q (.panic c) a w) (hsel : Region.noSelect ops = true) {k : St → Option R} : ∀ (ord : List Nat) (f : Nat) (l : Array Bool) {st : St} {a : Act} {w : World} {hd : Nat → Value}, ord.length ≤ f → chk E ops ord l = true → Shutd .any ops l →
    Rel ρ w0 U0 own fx hd0 st a w hd → opsI E ops.toList ord st k = some r → (∀ st' a' w' hd', k st' = some r → Rel ρ w0 U0 own fx hd0 st' a' w' hd' → Q .normal a' w') → wpAnyR P .any ops Q (dAt E ops) f l a w
  | [], f, l, st, a, w, hd, _, hc, hs, H, h, hk => doneR (by simpa [chk] using hc) (hk _ _ _ _ h H) f
  | i :: ord, 0, l, st, a, w, hd, hf, _, _, _, _, _ => by simp at hf
  | i :: ord, f + 1, l, st, a, w, hd, hf, hc, hs, H, h, hk => by
    simp only [chk, Bool.and_eq_true] at hc
    obtain ⟨hc1, hc2⟩ := hc
    simp only [opsI] at h
    cases hoi : ops[i]? with
    | none => rw [hoi] at hc1; cases hc1
    | some o =>
      have hoi' : ops.toList[i]? = some o := by simpa using hoi
      rw [hoi'] at h
      simp only at h
      rw [hoi] at hc1
      simp only at hc1
      have hrec : ∀ {st' : St} {a' : Act} {w' : World} {hd' : Nat → Value}, i ∈ Region.ready .any ops l → Rel ρ w0 U0 own fx hd0 st' a' w' hd' → opsI E ops.toList ord st' k = some r → wpAnyR P .any ops Q (dAt E ops) f (l.setIfInBounds i true) a' w' :=
        fun hr H' h' => opsI_sound hE ho hF hK hQ hsel ord f (l.setIfInBounds i true) (by simpa using hf) hc2 (hs.list hr) H' h' hk
      split at hc1
      · rename_i hp
        simp only [Bool.and_eq_true, List.contains_eq_mem, decide_eq_true_eq] at hc1
        have hfr : ∀ j oj, ops[j]? = some oj → j ≠ i → l.getD j true = false → (∀ e ∈ oj.after, Region.binds .any e = true → e.on ≠ i) → o.apart ops oj = true := Region.free_spec hoi hc1.1
        rcases guard_ok H h with ⟨h1, h2⟩ | ⟨h1, h2⟩
        · unfold op1 at h2
          rw [if_pos hp] at h2
          obtain ⟨z, v, q1, q2, q3, q4⟩ := pure_sound hE.tab h2 H.ev_ H.refs H.hdrs
          exact firstR (c := 0) hoi (Region.noSelect_spec hsel) (fun c a w => hQ c a _ _ w) f l a w hfr hc1.2 hs (.inl (fun w' => ⟨fun _ => q4 w', fun hn => by rw [h1] at hn; cases hn⟩)) (hrec hc1.2 (H.put q2 q3 o.dst) q1)
        · exact firstR (v := undef) (c := 0) hoi (Region.noSelect_spec hsel) (fun c a w => hQ c a _ _ w) f l a w hfr hc1.2 hs (.inl (fun w' => ⟨fun hn => (by rw [h1] at hn; cases hn), fun _ => rfl⟩)) (hrec hc1.2 (H.put (x := .und) (v := undef) rfl (by simp [A.refs]) o.dst) h2)
      · rename_i hp
        split at hc1
        · rename_i hl
          simp only [Bool.and_eq_true, List.contains_eq_mem, decide_eq_true_eq, List.all_eq_true, List.mem_range, Bool.or_eq_true, Bool.not_eq_true'] at hc1
          obtain ⟨⟨c1, c2⟩, c3⟩ := hc1
          have hfr : ∀ j oj, ops[j]? = some oj → j ≠ i → l.getD j true = false → (∀ e ∈ oj.after, Region.binds .any e = true → e.on ≠ i) → o.apart ops oj = true := Region.free_spec hoi c1
          have hw : ∀ j oj, ops[j]? = some oj → dAt E ops j = true → l.getD j true = false → waitsOn .any ops ops.size j i = true := fun j oj hj hd hun => by
            rcases c3 j (Array.getElem?_eq_some_iff.1 hj).1 with (h | h) | h
            · rw [hd] at h; cases h
            · rw [hun] at h; cases h
            · exact h
          rcases guard_ok H h with ⟨h1, h2⟩ | ⟨h1, h2⟩
          · unfold op1 at h2
            rw [if_neg hp] at h2
            split at h2
            · rename_i t x hop
              obtain ⟨st, hd, H, h2⟩ := soft_split (k := fun st => opsI E ops.toList ord st k) (d := o.dst) (t := t) (x := x) ho H h2
              obtain ⟨z, v, q1, q2, q3, q4⟩ := load_sound hE.tab H h2
              refine firstR (v := v) (c := ops.size) hoi (Region.noSelect_spec hsel) (fun c a w => hQ c a _ _ w) f l a w hfr c2 hs (.inr ⟨.inl ⟨h1, fun w' hw' => ?_⟩, hw⟩) (hrec c2 (H.put q2 q3 o.dst) q1)
              have := q4 w' hw'
              simp only [execOp, hop, Sem.run_bind, this, Result.andThen_ok, Sem.run_pure]
            · rename_i hno
              unfold isLoad at hl
              split at hl
              · rename_i t x hop
                exact absurd hop (hno t x)
              · cases hl
          · exact firstR (v := undef) (c := 0) hoi (Region.noSelect_spec hsel) (fun c a w => hQ c a _ _ w) f l a w hfr c2 hs (.inl (fun w' => ⟨fun hn => (by rw [h1] at hn; cases hn), fun _ => rfl⟩)) (hrec c2 (H.put (x := .und) (v := undef) rfl (by simp [A.refs]) o.dst) h2)
        · have hr : Region.ready .any ops l = [i] := by simpa using hc1
          have hmem : i ∈ Region.ready .any ops l := by rw [hr]; simp
          refine oneR hoi hr ?_
          unfold wpOp
          rw [hoi]
          simp only
          rcases guard_ok H h with ⟨h1, h2⟩ | ⟨h1, h2⟩
          · rw [if_pos h1]
            refine .inl (op1_sound hE ho hF hK H h2 (fun st' a' w' hd' q1 H' q3 => ⟨fun hD => q3 ?_, hrec hmem H' q1⟩))
            simp only [dAt, hoi] at hD
            simpa using hD
          · rw [if_neg (by rw [h1]; simp)]
            exact ⟨fun _ => Ag.refl _ _, hrec hmem (H.put (x := .und) (v := undef) rfl (by simp [A.refs]) o.dst) h2⟩
def dep : Ords → Nat
  | .nil => 0
  | .step _ t => dep t + 1
  | .alt _ t o => max (dep t + 1) (dep o)
def chkT (E : Env) (ops : Array Oper) : Ords → List Nat → Array Bool → Bool
  | .nil, acc, l => acc.isEmpty && (Region.ready .any ops l).isEmpty
  | .step i t, acc, l => (match ops[i]? with
    | none => false
    | some o =>
      if (acc.isEmpty && isPure o.op) = true then Region.free .any ops l i && (Region.ready .any ops l).contains i
      else if (acc.isEmpty && isLoad o.op && Region.free .any ops l i && (Region.ready .any ops l).contains i && (List.range ops.size).all (fun j => !(dAt E ops j) || l.getD j true || waitsOn .any ops ops.size j i)) = true then true
      else Region.ready .any ops l == acc ++ [i]) && chkT E ops t [] (l.setIfInBounds i true)
  | .alt i t o, acc, l => (ops[i]?).isSome && (Region.ready .any ops l).contains i && chkT E ops t [] (l.setIfInBounds i true) && chkT E ops o (acc ++ [i]) l
theorem opsT_sound (hE : EnvOk P ρ E) (ho : E.own = own) (hF : ∀ i, E.fx i = fx i) (hK : KOk ρ (Us U0 own hd0) w0) {ops : Array Oper} {Q : Exit → Act → World → Prop} (hQ : ∀ c a d v w, Q (.panic c) (a.put d v) w → Q (.panic c) a w) (hsel : Region.noSelect ops = true) {k : St → Option R} : ∀ (t : Ords) (acc : List Nat) (f : Nat) (l : Array Bool) {st : St} {a : Act} {w : World} {hd : Nat → Value}, dep t ≤ f → chkT E ops t acc l = true → Shutd .any ops l →
    Rel ρ w0 U0 own fx hd0 st a w hd → opsT E ops.toList t st k = some r → (∀ st' a' w' hd', k st' = some r → Rel ρ w0 U0 own fx hd0 st' a' w' hd' → Q .normal a' w') →
    (acc = [] → wpAnyR P .any ops Q (dAt E ops) f l a w) ∧ (acc ≠ [] → ∀ f', f = f' + 1 → Region.ready .any ops l ≠ [] ∧ ∀ j ∈ Region.ready .any ops l, j ∉ acc → wpOp P ops Q j (fun a' w' => (dAt E ops j = false → Ag (fun _ => False) w w') ∧ wpAnyR P .any ops Q (dAt E ops) f' (l.setIfInBounds j true) a' w') a w)
  | .nil, acc, f, l, st, a, w, hd, _, hc, hs, H, h, hk => by
    simp only [chkT, Bool.and_eq_true, List.isEmpty_iff] at hc
    exact ⟨fun _ => doneR hc.2 (hk _ _ _ _ h H) f, fun hn => absurd hc.1 hn⟩
  | .step i t, acc, 0, l, st, a, w, hd, hf, _, _, _, _, _ => by simp [dep] at hf
  | .step i t, acc, f + 1, l, st, a, w, hd, hf, hc, hs, H, h, hk => by
    simp only [chkT, Bool.and_eq_true] at hc
    obtain ⟨hc1, hc2⟩ := hc
    simp only [opsT] at h
    cases hoi : ops[i]? with
    | none => rw [hoi] at hc1; cases hc1
    | some o =>
      have hoi' : ops.toList[i]? = some o := by simpa using hoi
      rw [hoi'] at h
      simp only at h
      rw [hoi] at hc1
      simp only at hc1
      have hrec : ∀ {st' : St} {a' : Act} {w' : World} {hd' : Nat → Value}, i ∈ Region.ready .any ops l → Rel ρ w0 U0 own fx hd0 st' a' w' hd' → opsT E ops.toList t st' k = some r → wpAnyR P .any ops Q (dAt E ops) f (l.setIfInBounds i true) a' w' :=
        fun hr H' h' => (opsT_sound hE ho hF hK hQ hsel t [] f (l.setIfInBounds i true) (by simpa [dep] using hf) hc2 (hs.list hr) H' h' hk).1 rfl
      split at hc1
      · rename_i hp
        simp only [Bool.and_eq_true, List.isEmpty_iff] at hp
        obtain ⟨rfl, hp⟩ := hp
        refine ⟨fun _ => ?_, fun hn => absurd rfl hn⟩
        simp only [Bool.and_eq_true, List.contains_eq_mem, decide_eq_true_eq] at hc1
        have hfr : ∀ j oj, ops[j]? = some oj → j ≠ i → l.getD j true = false → (∀ e ∈ oj.after, Region.binds .any e = true → e.on ≠ i) → o.apart ops oj = true := Region.free_spec hoi hc1.1
        rcases guard_ok H h with ⟨h1, h2⟩ | ⟨h1, h2⟩
        · unfold op1 at h2
          rw [if_pos hp] at h2
          obtain ⟨z, v, q1, q2, q3, q4⟩ := pure_sound hE.tab h2 H.ev_ H.refs H.hdrs
          exact firstR (c := 0) hoi (Region.noSelect_spec hsel) (fun c a w => hQ c a _ _ w) f l a w hfr hc1.2 hs (.inl (fun w' => ⟨fun _ => q4 w', fun hn => by rw [h1] at hn; cases hn⟩)) (hrec hc1.2 (H.put q2 q3 o.dst) q1)
        · exact firstR (v := undef) (c := 0) hoi (Region.noSelect_spec hsel) (fun c a w => hQ c a _ _ w) f l a w hfr hc1.2 hs (.inl (fun w' => ⟨fun hn => (by rw [h1] at hn; cases hn), fun _ => rfl⟩)) (hrec hc1.2 (H.put (x := .und) (v := undef) rfl (by simp [A.refs]) o.dst) h2)
      · rename_i hp
        split at hc1
        · rename_i hl
          simp only [Bool.and_eq_true, List.isEmpty_iff, List.contains_eq_mem, decide_eq_true_eq, List.all_eq_true, List.mem_range, Bool.or_eq_true, Bool.not_eq_true'] at hl
          obtain ⟨⟨⟨⟨rfl, hl⟩, c1⟩, c2⟩, c3⟩ := hl
          refine ⟨fun _ => ?_, fun hn => absurd rfl hn⟩
          have hp' : ¬ isPure o.op = true := fun q => hp (by simp [q])
          have hfr : ∀ j oj, ops[j]? = some oj → j ≠ i → l.getD j true = false → (∀ e ∈ oj.after, Region.binds .any e = true → e.on ≠ i) → o.apart ops oj = true := Region.free_spec hoi c1
          have hw : ∀ j oj, ops[j]? = some oj → dAt E ops j = true → l.getD j true = false → waitsOn .any ops ops.size j i = true := fun j oj hj hd hun => by
            rcases c3 j (Array.getElem?_eq_some_iff.1 hj).1 with (h | h) | h
            · rw [hd] at h; cases h
            · rw [hun] at h; cases h
            · exact h
          rcases guard_ok H h with ⟨h1, h2⟩ | ⟨h1, h2⟩
          · unfold op1 at h2
            rw [if_neg hp'] at h2
            split at h2
            · rename_i ty x hop
              obtain ⟨st, hd, H, h2⟩ := soft_split (k := fun st => opsT E ops.toList t st k) (d := o.dst) (t := ty) (x := x) ho H h2
              obtain ⟨z, v, q1, q2, q3, q4⟩ := load_sound hE.tab H h2
              refine firstR (v := v) (c := ops.size) hoi (Region.noSelect_spec hsel) (fun c a w => hQ c a _ _ w) f l a w hfr c2 hs (.inr ⟨.inl ⟨h1, fun w' hw' => ?_⟩, hw⟩) (hrec c2 (H.put q2 q3 o.dst) q1)
              have := q4 w' hw'
              simp only [execOp, hop, Sem.run_bind, this, Result.andThen_ok, Sem.run_pure]
            · rename_i hno
              unfold isLoad at hl
              split at hl
              · rename_i t x hop
                exact absurd hop (hno t x)
              · cases hl
          · exact firstR (v := undef) (c := 0) hoi (Region.noSelect_spec hsel) (fun c a w => hQ c a _ _ w) f l a w hfr c2 hs (.inl (fun w' => ⟨fun hn => (by rw [h1] at hn; cases hn), fun _ => rfl⟩)) (hrec c2 (H.put (x := .und) (v := undef) rfl (by simp [A.refs]) o.dst) h2)
        · have hr : Region.ready .any ops l = acc ++ [i] := by simpa using hc1
          have hmem : i ∈ Region.ready .any ops l := by rw [hr]; simp
          have key : wpOp P ops Q i (fun a' w' => (dAt E ops i = false → Ag (fun _ => False) w w') ∧ wpAnyR P .any ops Q (dAt E ops) f (l.setIfInBounds i true) a' w') a w := by
            unfold wpOp
            rw [hoi]
            simp only
            rcases guard_ok H h with ⟨h1, h2⟩ | ⟨h1, h2⟩
            · rw [if_pos h1]
              refine .inl (op1_sound hE ho hF hK H h2 (fun st' a' w' hd' q1 H' q3 => ⟨fun hD => q3 ?_, hrec hmem H' q1⟩))
              simp only [dAt, hoi] at hD
              simpa using hD
            · rw [if_neg (by rw [h1]; simp)]
              exact ⟨fun _ => Ag.refl _ _, hrec hmem (H.put (x := .und) (v := undef) rfl (by simp [A.refs]) o.dst) h2⟩
          refine ⟨fun ha => ?_, fun _ f' hf' => ⟨by rw [hr]; simp, fun j hj hna => ?_⟩⟩
          · subst ha
            exact oneR hoi hr key
          · rw [hr] at hj
            have : j = i := by
              rcases List.mem_append.1 hj with h | h
              · exact absurd h hna
              · simpa using h
            subst this
            obtain rfl : f = f' := by omega
            exact key
  | .alt i t o, acc, 0, l, st, a, w, hd, hf, _, _, _, _, _ => by simp [dep] at hf
  | .alt i t o, acc, f + 1, l, st, a, w, hd, hf, hc, hs, H, h, hk => by
    simp only [chkT, Bool.and_eq_true, List.contains_eq_mem, decide_eq_true_eq] at hc
    obtain ⟨⟨⟨hc0, hmem⟩, hc1⟩, hc2⟩ := hc
    simp only [opsT] at h
    obtain ⟨ha, hb⟩ := bothK_some h
    obtain ⟨oi, hoi⟩ := Option.isSome_iff_exists.1 hc0
    have hoi' : ops.toList[i]? = some oi := by simpa using hoi
    rw [hoi'] at ha
    simp only at ha
    simp only [dep] at hf
    have hrec : ∀ {st' : St} {a' : Act} {w' : World} {hd' : Nat → Value}, Rel ρ w0 U0 own fx hd0 st' a' w' hd' → opsT E ops.toList t st' k = some r → wpAnyR P .any ops Q (dAt E ops) f (l.setIfInBounds i true) a' w' :=
      fun H' h' => (opsT_sound hE ho hF hK hQ hsel t [] f (l.setIfInBounds i true) (by omega) hc1 (hs.list hmem) H' h' hk).1 rfl
    have key : wpOp P ops Q i (fun a' w' => (dAt E ops i = false → Ag (fun _ => False) w w') ∧ wpAnyR P .any ops Q (dAt E ops) f (l.setIfInBounds i true) a' w') a w := by
      unfold wpOp
      rw [hoi]
      simp only
      rcases guard_ok H ha with ⟨h1, h2⟩ | ⟨h1, h2⟩
      · rw [if_pos h1]
        refine .inl (op1_sound hE ho hF hK H h2 (fun st' a' w' hd' q1 H' q3 => ⟨fun hD => q3 ?_, hrec H' q1⟩))
        simp only [dAt, hoi] at hD
        simpa using hD
      · rw [if_neg (by rw [h1]; simp)]
        exact ⟨fun _ => Ag.refl _ _, hrec (H.put (x := .und) (v := undef) rfl (by simp [A.refs]) oi.dst) h2⟩
    have rest := (opsT_sound hE ho hF hK hQ hsel o (acc ++ [i]) (f + 1) l (by omega) hc2 hs H hb hk).2 (by simp) f rfl
    have all : ∀ j ∈ Region.ready .any ops l, j ∉ acc → wpOp P ops Q j (fun a' w' => (dAt E ops j = false → Ag (fun _ => False) w w') ∧ wpAnyR P .any ops Q (dAt E ops) f (l.setIfInBounds j true) a' w') a w := fun j hj hna => by
      by_cases hji : j = i
      · subst hji; exact key
      · exact rest.2 j hj (by simp [hna, hji])
    refine ⟨fun e => ?_, fun _ f' hf' => ?_⟩
    · subst e
      exact ⟨fun h0 => absurd h0 rest.1, fun j hj => all j hj (by simp)⟩
    · obtain rfl : f = f' := by omega
      exact ⟨rest.1, all⟩
end
end Go.Proofs.YthbojpaghbbnnaaDoor.Z
namespace Go.Proofs.YthbojpaghbbnnaaDoor.Z
open Go Go.RowKit
set_option linter.unusedVariables false
set_option linter.unusedSimpArgs false
section
variable {P : Program} {ρ : Obs} {w : World} {hd : Nat → Value} {w0 : World} {U0 : Nat → Prop} {own : Nat} {fx : Nat → Bool} {hd0 : Nat → Value} {st : St} {a : Act} {R : Type} {r : R} {E : Env}
/-- A temporary is looked at in another way. -/
theorem Rel.reslot (H : Rel ρ w0 U0 own fx hd0 st a w hd) {d : Nat} {x : A} (hx : ∀ v, a.tmps[d]? = some v → RA ρ (Us U0 st.ob.length hd) w hd x v) (hr : ∀ j ∈ x.refs, j < st.ob.length) : Rel ρ w0 U0 own fx hd0 ⟨setn x st.tm d, st.ob⟩ a w hd := by
  refine ⟨by rw [length_setn]; exact H.sz, H.df, fun i v hv => ?_, H.ob, H.ne, H.keep, H.kp, H.ow, H.ag, H.u0, fun i j hj => ?_, H.wo⟩
  · rw [atn_setn]
    split
    · rename_i h
      rw [← h.1] at hv
      exact hx v hv
    · exact H.sl i v hv
  · rw [atn_setn] at hj
    split at hj
    · exact hr j hj
    · exact H.wt i j hj
theorem Rel.slot (H : Rel ρ w0 U0 own fx hd0 st a w hd) {d : Nat} {v : Value} (hv : a.tmps[d]? = some v) : RA ρ (Us U0 st.ob.length hd) w hd (atn .un st.tm d) v := H.sl d v hv
/-- A struct's cells are looked at in another way. -/
theorem Rel.recell (H : Rel ρ w0 U0 own fx hd0 st a w hd) {i : Nat} {o : Ob} (ho : RO ρ (Us U0 st.ob.length hd) w hd (if i < own then 0 else w0.heap.size) o (hd i)) (hr : ∀ j ∈ o.refs, j < st.ob.length) : Rel ρ w0 U0 own fx hd0 ⟨st.tm, setn o st.ob i⟩ a w hd := by
  refine ⟨H.sz, H.df, ?_, fun q hq => ?_, ?_, H.keep, H.kp, ?_, H.ag, H.u0, ?_, fun q j hj => ?_⟩
  · simp only [length_setn]; exact H.sl
  · simp only [length_setn] at hq ⊢
    rw [atn_setn]
    by_cases h : i = q ∧ i < st.ob.length
    · rw [if_pos h, ← h.1]
      exact ho
    · rw [if_neg h]
      exact H.ob q hq
  · simp only [length_setn]; exact H.ne
  · simp only [length_setn]; exact H.ow
  · simp only [length_setn]; exact H.wt
  · simp only [length_setn]
    rw [atn_setn] at hj
    split at hj
    · exact hr j hj
    · exact H.wo q j hj
theorem refs_mem {e : TypeId} {l : List A} {j : Nat} (h : j ∈ (Ob.cells e l).refs) : ∃ q, q < l.length ∧ j ∈ (atn .un l q).refs := by
  obtain ⟨x, hx, hj⟩ := List.mem_flatMap.1 (show j ∈ l.flatMap A.refs from h)
  obtain ⟨q, hq, rfl⟩ := List.getElem_of_mem hx
  exact ⟨q, hq, by rw [atn_getElem _ _ _ hq]; exact hj⟩
theorem mem_refs {e : TypeId} {l : List A} {j q : Nat} (hq : q < l.length) (h : j ∈ (atn .un l q).refs) : j ∈ (Ob.cells e l).refs := by
  rw [atn_getElem _ _ _ hq] at h
  exact List.mem_flatMap.2 ⟨_, List.getElem_mem hq, h⟩
theorem nlsAt_ok {e : TypeId} {t : T} {i j : Nat} (H : Rel ρ w0 U0 own fx hd0 st a w hd) : ∃ hd', Rel ρ w0 U0 own fx hd0 (nlsAt e t i j st) a w hd' := by
  unfold nlsAt
  split
  · rename_i e' l hat
    split
    · rename_i hlj
      have hi : i < st.ob.length := Nat.not_le.1 fun h => by rw [atn_out _ _ _ h] at hat; cases hat
      have hjl : j < l.length := Nat.not_le.1 fun h => by rw [atn_out _ _ _ h] at hlj; cases hlj
      have hb : ∀ b, blk nilV = some b → w.heap.size ≤ b := fun b hb => by rw [blk_nilV] at hb; cases hb
      have H1 := H.new (Ag.refl _ _) (o := .row e t []) (v := nilV) (upd hd st.ob.length nilV) (fun i hi => upd_ne (by omega)) (upd_same _ _ _) (by simp [Ob.refs]) hb ⟨[], World.ownsRow_nil _ _ _ _, rfl⟩
      have hat1 : atn .gone (st.ob ++ [Ob.row e t []]) i = .cells e' l := by rw [atn_append, if_pos hi]; exact hat
      have ho := H1.ob i (by simp; omega)
      rw [show (⟨st.tm, st.ob ++ [Ob.row e t []]⟩ : St).ob = st.ob ++ [Ob.row e t []] from rfl] at ho
      rw [hat1] at ho
      obtain ⟨b, vs, e1, e2, e3, e4, e5⟩ := ho
      have hw : ∀ q, q < l.length → ∀ k ∈ (atn .un l q).refs, k < st.ob.length := fun q hq k hk => H.wo i k (by rw [hat]; exact mem_refs hq hk)
      refine ⟨_, H1.recell (i := i) (o := .cells e' (setn (.row st.ob.length) l j)) ⟨b, vs, e1, e2, e3, by rw [length_setn]; exact e4, fun q hq => ?_⟩ (fun k hk => ?_)⟩
      · rw [length_setn] at hq
        obtain ⟨x, x1, x2, x3⟩ := e5 q hq
        refine ⟨x, x1, x2, ?_⟩
        rw [atn_setn]
        split
        · rename_i h
          obtain ⟨rfl, _⟩ := h
          rw [hlj] at x3
          show x = _
          rw [upd_same]
          exact x3
        · exact x3
      · obtain ⟨q, hq, hk⟩ := refs_mem hk
        rw [length_setn] at hq
        rw [atn_setn] at hk
        show k < (st.ob ++ [Ob.row e t []]).length
        rw [List.length_append, List.length_singleton]
        split at hk
        · have : k = st.ob.length := by simpa [A.refs] using hk
          omega
        · have := hw q hq k hk
          omega
    · exact ⟨hd, H⟩
  · exact ⟨hd, H⟩
theorem nlsAll_ok {e : TypeId} {t : T} {i : Nat} : ∀ (j : Nat) {st : St} {hd : Nat → Value}, Rel ρ w0 U0 own fx hd0 st a w hd → ∃ hd', Rel ρ w0 U0 own fx hd0 (nlsAll e t i j st) a w hd'
  | 0, _, hd, H => ⟨hd, H⟩
  | j + 1, _, _, H => by
    obtain ⟨hd1, H1⟩ := nlsAll_ok j H
    exact nlsAt_ok H1
theorem shape_ok (own : Nat) : ∀ (l : List (Nat × Option (Sum (TypeId × T) T))) {st : St} {hd : Nat → Value}, Rel ρ w0 U0 own fx hd0 st a w hd → ∃ hd', Rel ρ w0 U0 own fx hd0 (shape own st l) a w hd'
  | [], st, hd, H => ⟨hd, H⟩
  | (d, none) :: l, st, hd, H => shape_ok own l H
  | (d, some (.inl (e, t))) :: l, st, hd, H => by
    unfold shape
    split
    · rename_i hat
      have hb : ∀ b, blk nilV = some b → w.heap.size ≤ b := fun b hb => by rw [blk_nilV] at hb; cases hb
      have H1 := H.new (Ag.refl _ _) (o := .row e t []) (v := nilV) (upd hd st.ob.length nilV) (fun i hi => upd_ne (by omega)) (upd_same _ _ _) (by simp [Ob.refs]) hb ⟨[], World.ownsRow_nil _ _ _ _, rfl⟩
      have H2 := H1.reslot (d := d) (x := .row st.ob.length) (fun v hv => by
        have := H.sl d v hv
        rw [hat] at this
        show v = _
        rw [upd_same]
        exact this) (by simp [A.refs])
      exact shape_ok own l H2
    · obtain ⟨hd1, H1⟩ := nlsAll_ok (e := e) (t := t) _ H
      exact shape_ok own l H1
    · exact shape_ok own l H
  | (d, some (.inr t)) :: l, st, hd, H => by
    unfold shape
    split
    · rename_i hat
      refine shape_ok own l (H.reslot (d := d) (x := .v (.list t) []) (fun v hv => ?_) (by simp [A.refs]))
      have := H.sl d v hv
      rw [hat] at this
      exact ⟨[.slice none 0 0], this, none, 0, [], rfl, Nat.zero_le _, Nat.le_refl _, rfl, fun h => absurd h (by simp)⟩
    · rename_i hat
      refine shape_ok own l (H.reslot (d := d) (fun v hv => ?_) ?_)
      · have := H.sl d v hv
        rw [hat] at this
        split
        · exact ⟨[.pointer none], this, _, rfl, rfl⟩
        · exact ⟨[.pointer none], this, _, rfl, rfl⟩
        · exact this
      · split <;> simp [A.refs]
    · split
      · rename_i hth
        obtain ⟨hd', H', _⟩ := H.thaw hth (H.wt d)
        exact shape_ok own l H'
      · exact shape_ok own l H
theorem only_atn (h : List (Nat × Option (Sum (TypeId × T) T))) : ∀ (l : List A) (n i : Nat), atn .un (only h n l) i = atn .un l i ∨ atn .un (only h n l) i = .un
  | [], _, _ => .inl rfl
  | x :: l, n, 0 => by
    simp only [only, atn]
    split
    · exact .inl rfl
    · exact .inr rfl
  | x :: l, n, i + 1 => only_atn h l (n + 1) i
theorem only_len (h : List (Nat × Option (Sum (TypeId × T) T))) : ∀ (l : List A) (n : Nat), (only h n l).length = l.length
  | [], _ => rfl
  | x :: l, n => by simp [only, only_len h l]
/-- What is not kept is no longer known. -/
theorem Rel.only (H : Rel ρ w0 U0 own fx hd0 st a w hd) (h : List (Nat × Option (Sum (TypeId × T) T))) : Rel ρ w0 U0 own fx hd0 ⟨only h 0 st.tm, st.ob⟩ a w hd := by
  refine ⟨by rw [only_len]; exact H.sz, H.df, fun i v hv => ?_, H.ob, H.ne, H.keep, H.kp, H.ow, H.ag, H.u0, fun i j hj => ?_, H.wo⟩
  · rcases only_atn h st.tm 0 i with e | e <;> simp only <;> rw [e]
    · exact H.sl i v hv
    · trivial
  · simp only at hj
    rcases only_atn h st.tm 0 i with e | e <;> rw [e] at hj
    · exact H.wt i j hj
    · simp [A.refs] at hj
theorem pos_atn : ∀ {l : List Nat} {i : Nat}, i ∈ l → atn 0 l (posOf i l) = i ∧ posOf i l < l.length
  | x :: l, i, h => by
    simp only [posOf]
    split
    · rename_i e; exact ⟨e, by simp⟩
    · rename_i e
      have hi : i ∈ l := by
        rcases List.mem_cons.1 h with h | h
        · exact absurd h.symm e
        · exact h
      obtain ⟨h1, h2⟩ := pos_atn hi
      exact ⟨h1, by simpa using h2⟩
theorem ren_refs (f : Nat → Nat) : ∀ {x : A} {j : Nat}, j ∈ (A.ren f x).refs → ∃ i ∈ x.refs, f i = j
  | .row i, j, h => ⟨i, by simp [A.refs], by simpa [A.ren, A.refs, eq_comm] using h⟩
  | .cut i _ _, j, h => ⟨i, by simp [A.refs], by simpa [A.ren, A.refs, eq_comm] using h⟩
  | .adr i _ _ _ _, j, h => ⟨i, by simp [A.refs], by simpa [A.ren, A.refs, eq_comm] using h⟩
  | .box i _, j, h => ⟨i, by simp [A.refs], by simpa [A.ren, A.refs, eq_comm] using h⟩
  | .tcons a b, j, h => by
    simp only [A.ren, A.refs, List.mem_append] at h
    rcases h with h | h
    · obtain ⟨i, h1, h2⟩ := ren_refs f h; exact ⟨i, by simp [A.refs, h1], h2⟩
    · obtain ⟨i, h1, h2⟩ := ren_refs f h; exact ⟨i, by simp [A.refs, h1], h2⟩
  | .str a, j, h => ren_refs f (x := a) h
  | .un, _, h => by simp [A.ren, A.refs] at h
  | .und, _, h => by simp [A.ren, A.refs] at h
  | .v _ _, _, h => by simp [A.ren, A.refs] at h
  | .nls, _, h => by simp [A.ren, A.refs] at h
  | .nlp, _, h => by simp [A.ren, A.refs] at h
  | .ref _ _, _, h => by simp [A.ren, A.refs] at h
  | .tnil, _, h => by simp [A.ren, A.refs] at h
theorem RA.ren {U U' : Nat → Prop} {hd hd' : Nat → Value} (f : Nat → Nat) (k : Tr U w U' w) : ∀ {x : A} {v : Value}, (∀ i ∈ x.refs, hd' (f i) = hd i) → RA ρ U w hd x v → RA ρ U' w hd' (A.ren f x) v
  | .row i, v, hr, h => by
    have := hr i (by simp [A.refs])
    simp only [RA, A.ren] at h ⊢
    rw [this]
    exact h
  | .cut i n fl, v, hr, h => by
    have := hr i (by simp [A.refs])
    simp only [RA, A.ren] at h ⊢
    rw [this]
    exact h
  | .adr i _ _ _ _, v, hr, h => by
    have := hr i (by simp [A.refs])
    simp only [RA, A.ren] at h ⊢
    rw [this]
    exact h
  | .box i _, v, hr, h => by
    have := hr i (by simp [A.refs])
    simp only [RA, A.ren] at h ⊢
    rw [this]
    exact h
  | .tcons a b, _, hr, ⟨x, xs, e, h1, h2⟩ => ⟨x, xs, e, RA.ren f k (fun i hi => hr i (by simp [A.refs, hi])) h1, RA.ren f k (fun i hi => hr i (by simp [A.refs, hi])) h2⟩
  | .str a, _, hr, ⟨xs, e, h1, h2⟩ => ⟨xs, e, h1, RA.ren f k (x := a) hr h2⟩
  | .un, _, _, _ => trivial
  | .und, _, _, h => h
  | .v _ _, _, _, h => IRd.tr h k
  | .nls, _, _, h => h
  | .nlp, _, _, h => h
  | .ref _ _, _, _, ⟨b, off, cs, e, h1, h2⟩ => ⟨b, off, cs, e, ICs.tr k h1, fun w'' hw => h2 w'' (k w'' hw)⟩
  | .tnil, _, _, h => h
theorem ren_un (f : Nat → Nat) : A.ren f .un = .un := rfl
theorem atn_map {α β : Type} (d : α) (d' : β) (f : α → β) : ∀ (l : List α) (i : Nat), i < l.length → atn d' (l.map f) i = f (atn d l i)
  | [], i, h => by simp at h
  | _ :: _, 0, _ => rfl
  | _ :: l, i + 1, h => atn_map d d' f l i (by simpa using h)
/-- The objects get other numbers; those that nobody names are forgotten. -/
theorem Rel.renum (H : Rel ρ w0 U0 own fx hd0 st a w hd) {l : List Nat} (hn : nodupB l = true) (hl : ∀ i ∈ l, i < st.ob.length) (ho : ∀ i, i < own → i < l.length ∧ atn 0 l i = i) (hro : ∀ i ∈ l, ∀ j ∈ (atn .gone st.ob i).refs, j ∈ l) (hrt : ∀ i, ∀ j ∈ (atn .un st.tm i).refs, j ∈ l) :
    Rel ρ w0 U0 own fx hd0 ⟨mapn (A.ren (fun i => posOf i l)) st.tm, l.map (fun i => Ob.ren (fun i => posOf i l) (atn .gone st.ob i))⟩ a w (fun i => hd (atn 0 l i)) := by
  have hhd : ∀ j ∈ l, (fun i => hd (atn 0 l i)) (posOf j l) = hd j := fun j hj => by simp only; rw [(pos_atn hj).1]
  have hU : ∀ b, b < w.heap.size → Us U0 l.length (fun i => hd (atn 0 l i)) b → Us U0 st.ob.length hd b := by
    rintro b _ (hu | ⟨i, hi, hib⟩)
    · exact .inl hu
    · exact .inr ⟨_, hl _ (atn_mem 0 l i hi), hib⟩
  have ht : Tr (Us U0 st.ob.length hd) w (Us U0 l.length (fun i => hd (atn 0 l i))) w := Tr.of (V := fun _ => False) (Ag.refl _ _) (fun _ _ h => h.elim) hU
  have hat : ∀ i, i < l.length → atn Ob.gone (l.map (fun i => Ob.ren (fun i => posOf i l) (atn .gone st.ob i))) i = Ob.ren (fun i => posOf i l) (atn .gone st.ob (atn 0 l i)) := fun i hi => atn_map 0 Ob.gone _ l i hi
  refine ⟨by rw [length_mapn]; exact H.sz, H.df, fun i v hv => ?_, fun i hi => ?_, fun i j hi hj hij b hbi => ?_, fun i hi hf => ?_, fun i hi b hib => ?_, ?_, H.ag, H.u0, fun i j hj => ?_, fun i j hj => ?_⟩
  · simp only [List.length_map]
    rw [atn_mapn _ _ (ren_un _)]
    exact RA.ren _ ht (fun j hj => hhd j (hrt i j hj)) (H.sl i v hv)
  · simp only [List.length_map] at hi ⊢
    rw [hat i hi]
    have hm := hl _ (atn_mem 0 l i hi)
    have h1 := H.ob _ hm
    have hro' := hro _ (atn_mem 0 l i hi)
    have hB : (if i < own then 0 else w0.heap.size) = (if atn 0 l i < own then 0 else w0.heap.size) := by
      by_cases hio : i < own
      · rw [if_pos hio, (ho i hio).2, if_pos hio]
      · have : ¬ atn 0 l i < own := fun hc => hio (by
          have := (ho _ hc)
          have := nodup_inj hn (atn 0 l i) i this.1 hi (by rw [this.2])
          omega)
        rw [if_neg hio, if_neg this]
    rw [hB]
    cases hob : atn Ob.gone st.ob (atn 0 l i) with
    | row e t xs =>
      rw [hob] at h1
      exact ro_row h1 (fun b hb => ⟨rfl, (h1.blk_ge hb).1⟩) (Tk.of ht)
    | cells e cl =>
      rw [hob] at h1 hro'
      obtain ⟨b, vs, q1, q2, q3, q4, q5⟩ := h1
      refine ⟨b, vs, q1, q2, q3, by rw [length_mapn]; exact q4, fun q hq => ?_⟩
      rw [length_mapn] at hq
      obtain ⟨x, s1, s2, s3⟩ := q5 q hq
      refine ⟨x, s1, s2, ?_⟩
      rw [atn_mapn _ _ (ren_un _)]
      exact RA.ren _ ht (fun j hj => hhd j (hro' j (List.mem_flatMap.2 ⟨_, atn_mem _ _ _ hq, hj⟩))) s3
    | gone => rw [hob] at h1; exact h1
  · simp only [List.length_map] at hi hj
    exact H.ne _ _ (hl _ (atn_mem 0 l i hi)) (hl _ (atn_mem 0 l j hj)) (fun e => hij (nodup_inj hn i j hi hj e)) b hbi
  · show hd (atn 0 l i) = hd0 i
    rw [(ho i hi).2]
    exact H.keep i hi hf
  · simp only [(ho i hi).2] at hib
    exact H.kp i hi b hib
  · simp only [List.length_map]
    rcases Nat.eq_zero_or_pos own with h0 | h0
    · omega
    · have := (ho (own - 1) (by omega)).1
      omega
  · simp only [List.length_map]
    rw [atn_mapn _ _ (ren_un _)] at hj
    obtain ⟨q, h1, rfl⟩ := ren_refs _ hj
    exact (pos_atn (hrt i q h1)).2
  · simp only [List.length_map]
    rcases Nat.lt_or_ge i l.length with hi | hi
    · rw [hat i hi] at hj
      have hro' := hro _ (atn_mem 0 l i hi)
      cases hob : atn Ob.gone st.ob (atn 0 l i) with
      | row e t xs => rw [hob] at hj; simp [Ob.ren, Ob.refs] at hj
      | gone => rw [hob] at hj; simp [Ob.ren, Ob.refs] at hj
      | cells e cl =>
        rw [hob] at hj hro'
        simp only [Ob.ren, Ob.refs, List.mem_flatMap] at hj
        obtain ⟨y, hy, hj⟩ := hj
        obtain ⟨x, hx, rfl⟩ := mapn_mem _ hy
        obtain ⟨q, h1, rfl⟩ := ren_refs _ hj
        exact (pos_atn (hro' q (List.mem_flatMap.2 ⟨x, hx, h1⟩))).2
    · rw [atn_out _ _ _ (by rw [List.length_map]; exact hi)] at hj
      simp [Ob.refs] at hj
theorem canon_ok (H : Rel ρ w0 U0 own fx hd0 st a w hd) {h : Head} {k : St → Option R} (hc : canon own h st k = some r) : ∃ st' hd', k st' = some r ∧ Rel ρ w0 U0 own fx hd0 st' a w hd' := by
  obtain ⟨hd1, H1⟩ := shape_ok own h.keep H
  have H2 := H1.only h.keep
  unfold canon at hc
  simp only at hc
  split at hc
  · rename_i hcond
    simp only [Bool.and_eq_true, List.all_eq_true, decide_eq_true_eq, List.mem_range, beq_iff_eq, List.mem_flatMap, List.contains_eq_mem, forall_exists_index, and_imp] at hcond
    obtain ⟨⟨⟨⟨c1, c2⟩, c3⟩, c4⟩, c5⟩ := hcond
    refine ⟨_, _, hc, H2.renum c1 c2 (fun i hi => c3 i hi) (fun i hi j hj => c4 j i hi hj) (fun i j hj => ?_)⟩
    rcases Nat.lt_or_ge i (only h.keep 0 (shape own st h.keep).tm).length with hi | hi
    · exact c5 j _ (atn_mem .un _ i hi) hj
    · rw [atn_out _ _ _ hi] at hj
      simp [A.refs] at hj
  · cases hc
/-- How many operations have not come up. -/
def undone (l : Array Bool) : Nat := (l.toList.filter (fun b => !b)).length
theorem undone_zero (o : Array Oper) : undone (Array.replicate o.size false) = o.size := by
  simp [undone]
theorem undone_set {l : Array Bool} {i : Nat} (h : l.getD i true = false) : undone (l.setIfInBounds i true) + 1 = undone l := by
  have hi := getD_size h
  have h2 : l.toList[i]? = some false := by
    rw [Array.getD_eq_getD_getElem?, Array.getElem?_eq_getElem hi] at h
    simp only [Option.getD_some] at h
    rw [Array.getElem?_toList, Array.getElem?_eq_getElem hi, h]
  have key : ∀ (l : List Bool) (i : Nat), l[i]? = some false → ((l.set i true).filter (fun b => !b)).length + 1 = (l.filter (fun b => !b)).length := by
    intro l
    induction l with
    | nil => intro i h; simp at h
    | cons x l ih =>
      intro i h
      cases i with
      | zero =>
        simp only [List.getElem?_cons_zero, Option.some.injEq] at h
        subst h
        simp
      | succ i =>
        simp only [List.getElem?_cons_succ] at h
        have := ih i h
        cases x <;> simp_all
  have h3 : (l.setIfInBounds i true).toList = l.toList.set i true := by simp
  unfold undone
  rw [h3]
  exact key _ _ h2
theorem dag_sound (hE : EnvOk P ρ E) (ho : E.own = own) (hF : ∀ i, E.fx i = fx i) (hK : KOk ρ (Us U0 own hd0) w0) {ops : Array Oper} {Q : Exit → Act → World → Prop} (hQ : ∀ c a d v w, Q (.panic c) (a.put d v) w → Q (.panic c) a w) (hsel : Region.noSelect ops = true) {fin : St}
    (hk : ∀ a' w' hd', Rel ρ w0 U0 own fx hd0 fin a' w' hd' → Q .normal a' w') {l : Array Bool} {st : St} (hD : Dag E ops fin l st) : ∀ {a : Act} {w : World} {hd : Nat → Value}, Shutd .any ops l → Rel ρ w0 U0 own fx hd0 st a w hd → ∀ f, undone l ≤ f → wpAnyR P .any ops Q (dAt E ops) f l a w := by
  induction hD with
  | done hr => exact fun hs H f _ => doneR hr (hk _ _ _ H) f
  | @pure l st i st1 hc he _ ih =>
    intro a w hd hs H f hf
    obtain ⟨hh, oi, hoi, he⟩ := he
    rw [hoi] at hc
    simp only [Bool.and_eq_true, Option.isNone_iff_eq_none, List.contains_eq_mem, decide_eq_true_eq] at hc
    obtain ⟨⟨⟨hp, hg⟩, hfree⟩, hr⟩ := hc
    have hun := (mem_ready.1 hr).1
    have hu := undone_set hun
    cases f with
    | zero => omega
    | succ f =>
      have hfr : ∀ j oj, ops[j]? = some oj → j ≠ i → l.getD j true = false → (∀ e ∈ oj.after, Region.binds .any e = true → e.on ≠ i) → oi.apart ops oj = true := Region.free_spec hoi hfree
      have h2 := he St some
      rcases guard_ok H h2 with ⟨h1, h2⟩ | ⟨h1, h2⟩
      · unfold op1 at h2
        rw [if_pos hp] at h2
        obtain ⟨z, v, q1, q2, q3, q4⟩ := pure_sound hE.tab h2 H.ev_ H.refs H.hdrs
        rw [ho] at q1
        obtain ⟨st3, hd3, h3, H3⟩ := canon_ok (H.put q2 q3 oi.dst) q1
        obtain rfl := Option.some.inj h3
        exact firstR (c := 0) hoi (Region.noSelect_spec hsel) (fun c a w => hQ c a _ _ w) f l a w hfr hr hs (.inl (fun w' => ⟨fun _ => q4 w', fun hn => by rw [h1] at hn; cases hn⟩)) (ih (hs.list hr) H3 f (by omega))
      · rw [ho] at h2
        obtain ⟨st3, hd3, h3, H3⟩ := canon_ok (H.put (x := .und) (v := undef) rfl (by simp [A.refs]) oi.dst) h2
        obtain rfl := Option.some.inj h3
        exact firstR (v := undef) (c := 0) hoi (Region.noSelect_spec hsel) (fun c a w => hQ c a _ _ w) f l a w hfr hr hs (.inl (fun w' => ⟨fun hn => (by rw [h1] at hn; cases hn), fun _ => rfl⟩)) (ih (hs.list hr) H3 f (by omega))
  | @all l st st1 hne he _ ih =>
    intro a w hd hs H f hf
    cases f with
    | zero =>
      obtain ⟨i, hi⟩ := List.exists_mem_of_ne_nil _ hne
      have := undone_set (mem_ready.1 hi).1
      omega
    | succ f =>
      refine ⟨fun h0 => absurd h0 hne, fun i hi => ?_⟩
      obtain ⟨hh, oi, hoi, he⟩ := he i hi
      have hu := undone_set (mem_ready.1 hi).1
      unfold wpOp
      rw [hoi]
      simp only
      have h2 := he St some
      rcases guard_ok H h2 with ⟨h1, h3⟩ | ⟨h1, h3⟩
      · rw [if_pos h1]
        refine .inl (op1_sound hE ho hF hK H h3 (fun st' a' w' hd' q1 H' q3 => ?_))
        rw [ho] at q1
        obtain ⟨st3, hd3, e3, H3⟩ := canon_ok H' q1
        obtain rfl := Option.some.inj e3
        refine ⟨fun hD => q3 ?_, ih i hi (hs.list hi) H3 f (by omega)⟩
        simp only [dAt, hoi] at hD
        simpa using hD
      · rw [if_neg (by rw [h1]; simp)]
        rw [ho] at h3
        obtain ⟨st3, hd3, e3, H3⟩ := canon_ok (H.put (x := .und) (v := undef) rfl (by simp [A.refs]) oi.dst) h3
        obtain rfl := Option.some.inj e3
        exact ⟨fun _ => Ag.refl _ _, ih i hi (hs.list hi) H3 f (by omega)⟩
/-- May the code's regions be walked in the given orders? -/
def chkCode (E : Env) : Code → Bool
  | .region id o dr => if dr = true then (match E.rg id with
    | true => Region.noSelect o
    | false => match E.frk id with
    | some t => Region.noSelect o && decide (dep t ≤ o.size) && chkT E o t [] (Array.replicate o.size false)
    | none => Region.noSelect o && decide ((E.ord id).length ≤ o.size) && chk E o (E.ord id) (Array.replicate o.size false)) else true
  | .seq a b => chkCode E a && chkCode E b
  | .cond _ a b => chkCode E a && chkCode E b
  | .block _ a => chkCode E a
  | .loop a => chkCode E a
  | _ => true
def toExit : Ex → Exit
  | .nm => .normal
  | .ex i => .exit i
  | .rt => .ret
theorem shut0 (ops : Array Oper) : Shutd .any ops (Array.replicate ops.size false) := fun k o ho hk => by
  have hlt := (Array.getElem?_eq_some_iff.1 ho).1
  simp [Array.getD, hlt] at hk
theorem exec_sound (hE : EnvOk P ρ E) (ho : E.own = own) (hF : ∀ i, E.fx i = fx i) (hK : KOk ρ (Us U0 own hd0) w0) (hm : P.follows .mixedOrders = true) : ∀ (c : Code), chkCode E c = true → LoopsOk E c → ∀ {st : St} {a : Act} {w : World} {hd : Nat → Value} {K : Ex → St → Option R} {Q : Exit → Act → World → Prop}, (∀ c a d v w, Q (.panic c) (a.put d v) w → Q (.panic c) a w) → Rel ρ w0 U0 own fx hd0 st a w hd → exec E c st K = some r →
    (∀ e st' a' w' hd', K e st' = some r → Rel ρ w0 U0 own fx hd0 st' a' w' hd' → Q (toExit e) a' w') → c.wp P Q a w
  | .skip, _, _, st, a, w, hd, K, Q, hQ, H, h, hk => wp_skip (hk .nm _ _ _ _ h H)
  | .exit id, _, _, st, a, w, hd, K, Q, hQ, H, h, hk => wp_exit (hk (.ex id) _ _ _ _ h H)
  | .ret, _, _, st, a, w, hd, K, Q, hQ, H, h, hk => wp_ret (hk .rt _ _ _ _ h H)
  | .region id o dr, hc, hl, st, a, w, hd, K, Q, hQ, H, h, hk => by
    simp only [exec] at h
    cases dr with
    | false =>
      simp only [Bool.false_eq_true, if_false] at h
      exact wp_region_list (opsL_sound hE ho hF hK o.toList H h (fun st' a' w' hd' h' H' => hk .nm _ _ _ _ h' H'))
    | true =>
      simp only [if_true] at h
      have H' : Rel ρ w0 U0 own fx hd0 st a w.drew hd := H.grow (Ag.drew _ _)
      simp only [chkCode, if_true] at hc
      cases hrg : E.rg id with
      | true =>
        simp only [hrg] at h hc
        rw [ho] at h
        obtain ⟨st1, hd1, h1, H1⟩ := canon_ok H' h
        rcases (show RegOk E id o from hl) with q | q
        · rw [q] at hrg
          cases hrg
        · obtain ⟨fin, q1, q2⟩ := q R st1 K r h1
          exact wp_region_any hm (any_of_R _ _ _ _ (dag_sound hE ho hF hK hQ hc (fun a' w' hd' H'' => hk .nm _ _ _ _ q1 H'') q2 (shut0 o) H1 o.size (by
            rw [undone_zero]
            exact Nat.le_refl _)))
      | false =>
        simp only [hrg] at h hc
        split at hc
        · rename_i t ht
          simp only [Bool.and_eq_true, decide_eq_true_eq] at hc
          rw [ht] at h
          exact wp_region_any hm (any_of_R _ _ _ _ ((opsT_sound hE ho hF hK hQ hc.1.1 t [] o.size _ hc.1.2 hc.2 (shut0 o) H' h (fun st' a' w' hd' h' H' => hk .nm _ _ _ _ h' H')).1 rfl))
        · rename_i ht
          simp only [Bool.and_eq_true, decide_eq_true_eq] at hc
          rw [ht] at h
          exact wp_region_any hm (any_of_R _ _ _ _ (opsI_sound hE ho hF hK hQ hc.1.1 (E.ord id) o.size _ hc.1.2 hc.2 (shut0 o) H' h (fun st' a' w' hd' h' H' => hk .nm _ _ _ _ h' H')))
  | .seq x y, hc, hl, st, a, w, hd, K, Q, hQ, H, h, hk => by
    simp only [exec] at h
    simp only [chkCode, Bool.and_eq_true] at hc
    refine wp_seq (exec_sound hE ho hF hK hm x hc.1 hl.1 (Q := Exit.then (y.wp P Q) Q) hQ H h (fun e st' a' w' hd' h' H' => ?_))
    cases e with
    | nm => exact exec_sound hE ho hF hK hm y hc.2 hl.2 hQ H' h' hk
    | ex i => exact hk (.ex i) _ _ _ _ h' H'
    | rt => exact hk .rt _ _ _ _ h' H'
  | .cond c x y, hc, hl, st, a, w, hd, K, Q, hQ, H, h, hk => by
    simp only [exec] at h
    simp only [chkCode, Bool.and_eq_true] at hc
    split at h
    · rename_i b hcv
      have e1 : a.eval c = .bool b := IRd.bool (hcv ▸ H.ev_ c)
      refine wp_cond e1 ?_
      cases b with
      | true => exact exec_sound hE ho hF hK hm x hc.1 hl.1 hQ H (by simpa using h) hk
      | false => exact exec_sound hE ho hF hK hm y hc.2 hl.2 hQ H (by simpa using h) hk
    · cases h
  | .block id x, hc, hl, st, a, w, hd, K, Q, hQ, H, h, hk => by
    simp only [exec] at h
    simp only [chkCode] at hc
    refine wp_block (exec_sound hE ho hF hK hm x hc hl (Q := Exit.inBlock id Q) hQ H h (fun e st' a' w' hd' h' H' => ?_))
    cases e with
    | nm => exact hk .nm _ _ _ _ h' H'
    | rt => exact hk .rt _ _ _ _ h' H'
    | ex i =>
      simp only [toExit, Exit.inBlock]
      simp only at h'
      split at h'
      · rename_i e; rw [if_pos e]; exact hk .nm _ _ _ _ h' H'
      · rename_i e; rw [if_neg e]; exact hk (.ex i) _ _ _ _ h' H'
  | .loop x, hc, hl, st, a, w, hd, K, Q, hQ, H, h, hk => by
    simp only [exec] at h
    simp only [chkCode] at hc
    rw [ho] at h
    obtain ⟨st1, hd1, h1, H1⟩ := canon_ok H h
    rcases hl.1 st1 with hno | ⟨m, hmm⟩
    · rw [hno R K] at h1
      cases h1
    · refine wp_loop_rounds m ?_
      have hrun := hmm R K
      rw [h1] at hrun
      have key : ∀ (m : Nat) {st : St} {a : Act} {w : World} {hd : Nat → Value}, Rel ρ w0 U0 own fx hd0 st a w hd → loopN (exec E x) (canon E.own (E.head (firstRegion x))) (fun e => canon E.own (E.tail (firstRegion x) e)) m st K = some r → Code.rounds P x Q m a w := by
        intro m
        induction m with
        | zero => intro st a w hd H h; simp [loopN] at h
        | succ m ih =>
          intro st a w hd H h
          simp only [loopN] at h
          rw [rounds_succ]
          refine exec_sound hE ho hF hK hm x hc hl.2 (Q := Exit.then (Code.rounds P x Q m) Q) hQ H h (fun e st2 a2 w2 hd2 h2 H2 => ?_)
          rw [ho] at h2
          cases e with
          | nm =>
            obtain ⟨st3, hd3, h3, H3⟩ := canon_ok H2 h2
            exact ih H3 (by rw [ho]; exact h3)
          | ex i =>
            obtain ⟨st3, hd3, h3, H3⟩ := canon_ok H2 h2
            exact hk (.ex i) _ _ _ _ h3 H3
          | rt =>
            obtain ⟨st3, hd3, h3, H3⟩ := canon_ok H2 h2
            exact hk .rt _ _ _ _ h3 H3
      exact key m H1 hrun
  | .rangeFunc _ _ _ _, _, _, st, a, w, hd, K, Q, hQ, H, h, hk => by simp [exec] at h
  | .scope _, _, _, st, a, w, hd, K, Q, hQ, H, h, hk => by simp [exec] at h
  | .label _, _, _, st, a, w, hd, K, Q, hQ, H, h, hk => by simp [exec] at h
  | .goto _, _, _, st, a, w, hd, K, Q, hQ, H, h, hk => by simp [exec] at h
  | .refuse _, _, _, st, a, w, hd, K, Q, hQ, H, h, hk => by simp [exec] at h
end
section
variable {V X : Type}
abbrev Rd (V X : Type) := ∀ {R : Type}, V → (V → Option R) → (X → Option R) → Option R
def it (rd : Rd V X) {R : Type} : Nat → V → (X → Option R) → Option R
  | 0, _, _ => none
  | m + 1, v, kx => rd v (fun v' => it rd m v' kx) kx
theorem it_ok {E : Env} {x : Code} {rd : Rd V X} (hs : V → St) (ex : X → Ex × St) (h1 : ∀ (R : Type) (v : V) (k : St → Option R) (kx : Ex → St → Option R), exec E x (hs v) (fun e st' => match e with
    | .nm => canon E.own (E.head (firstRegion x)) st' k
    | .ex i => canon E.own (E.tail (firstRegion x) (.ex i)) st' (kx (.ex i))
    | .rt => canon E.own (E.tail (firstRegion x) .rt) st' (kx .rt)) = rd v (fun v' => k (hs v')) (fun z => kx (ex z).1 (ex z).2)) :
    ∀ (R : Type) (K : Ex → St → Option R) (m : Nat) (v : V), loopN (exec E x) (canon E.own (E.head (firstRegion x))) (fun e => canon E.own (E.tail (firstRegion x) e)) m (hs v) K = it rd m v (fun z => K (ex z).1 (ex z).2) := by
  intro R K m
  induction m with
  | zero => intro v; rfl
  | succ m ih =>
    intro v
    refine (h1 R v (fun st => loopN (exec E x) (canon E.own (E.head (firstRegion x))) (fun e => canon E.own (E.tail (firstRegion x) e)) m st K) K).trans ?_
    show rd v _ _ = rd v _ _
    congr 1
    funext v'
    exact ih v'
theorem loopOk_of {E : Env} {x : Code} {rd : Rd V X} (hs : V → St) (ex : X → Ex × St) (fin : V → Option X) (h1 : ∀ (R : Type) (v : V) (k : St → Option R) (kx : Ex → St → Option R), exec E x (hs v) (fun e st' => match e with
    | .nm => canon E.own (E.head (firstRegion x)) st' k
    | .ex i => canon E.own (E.tail (firstRegion x) (.ex i)) st' (kx (.ex i))
    | .rt => canon E.own (E.tail (firstRegion x) .rt) st' (kx .rt)) = rd v (fun v' => k (hs v')) (fun z => kx (ex z).1 (ex z).2))
    (hlp : ∀ st, (∀ (R : Type) (K : Ex → St → Option R), E.lp (firstRegion x) st K = none) ∨ ∃ v, st = hs v ∧ ∀ (R : Type) (K : Ex → St → Option R), E.lp (firstRegion x) st K = (match fin v with
      | some z => K (ex z).1 (ex z).2
      | none => none))
    (hf : ∀ v z, fin v = some z → ∃ m, ∀ (R : Type) (kx : X → Option R), it rd m v kx = kx z) : LoopOk E x := by
  intro st
  rcases hlp st with h | ⟨v, rfl, h⟩
  · exact .inl h
  · cases hfv : fin v with
    | none => exact .inl (fun R K => by rw [h R K, hfv])
    | some z =>
      obtain ⟨m, hm⟩ := hf v z hfv
      refine .inr ⟨m, fun R K => ?_⟩
      rw [h R K, hfv, it_ok hs ex h1, hm]
end
end Go.Proofs.YthbojpaghbbnnaaDoor.Z
