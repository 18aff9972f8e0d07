/- The small machine's stores and appends. Plain lemmas; no condition. -/
import Derived.Test.YthbojpaghbbnnaaZE
import Derived.Laws.CopyRow
import Derived.Laws.Tables
import Derived.Great.BuildSlice
import Derived.Laws.MakeOwn
import Derived.Laws.OwnMore
import Derived.Maps.AppendAt
namespace Go.Proofs.Ythbojpaghbbnnaa.Z
open Go Go.RowKit
set_option linter.unusedVariables false
set_option linter.unusedSimpArgs false
section
variable {P : Program} {tab : Tab} {ρ : Obs} {U : Nat → Prop} {w : World} {hd : Nat → Value} {R : Type} {n : Nat} {k : A → Option R} {r : R}
theorem load_run (ok : TabOk P tab) {id : TypeId} {i : TI} (h : tab.find id = some i) {b o : Nat} {ds : List Value} {y : i.t.den} (hd' : ICs ρ U w i.t ds y) {w' : World} (hc : ∀ j, j < i.t.size → w'.cell? ⟨b, o + j, none⟩ = ds[j]?) :
    (Instr.loadAt id (.pointer (some ⟨b, o, none⟩))).run P w' = .ok (pack i.t ds) w' := by
  have h1 := isAgg_run ok h w'
  have h2 := sizeOf_run ok h w'
  have hl := ICs.length hd'
  unfold Instr.loadAt loadVar
  simp only [Instr.sureAddr]
  rw [Sem.run_bind]
  simp only [Sem.run_pure, Result.andThen_ok]
  rw [Sem.run_bind, h1, Result.andThen_ok]
  cases hp : i.t.isPair with
  | true =>
    simp only [if_true]
    rw [Sem.run_bind, h2, Result.andThen_ok, Sem.run_bind, ← hl, run_loadCells_list w' ⟨b, o, none⟩ ds (fun j v hj => ?_)]
    · simp [pack_agg hp, go_sem]
    · have hj' : j < ds.length := (List.getElem?_eq_some_iff.1 hj).1
      have := hc j (by omega)
      rw [hj] at this
      rw [← this]
      congr 1
      unfold Addr.add
      split
      · rename_i e; subst e; rfl
      · rfl
  | false =>
    have h3 := T.size_one _ hp
    obtain ⟨v, rfl, _⟩ := ICs.one hp hd'
    have h4 := hc 0 (by omega)
    rw [pack_one hp]
    simp only [Nat.add_zero, List.getElem?_cons_zero] at h4
    simp [h4, go_sem]
/-- The cells of an own row's element. -/
theorem elem_cells {B : Nat} {e : TypeId} {u : T} {xs : List u.den} {v : Value} (h : RO ρ U w hd B (.row e u xs) v) {j : Nat} (hj : j < xs.length) : ∃ g cap cur ds, v = .slice (some ⟨g, 0, none⟩) xs.length cap ∧ w.heap[g]? = some (.cells cur e (0, 0)) ∧ cur.size = cap * u.size ∧ xs.length ≤ cap ∧ cap ≤ maxLen ∧
    ICs ρ U w u ds (xs.getD j u.dflt) ∧ (∀ q, q < u.size → cur[j * u.size + q]? = ds[q]?) ∧ Els (ICs ρ U w u) (cur.toList.take (xs.length * u.size)) xs := by
  obtain ⟨cs, ⟨h1, h2⟩, h3⟩ := h
  rcases h2 with ⟨_, h4⟩ | ⟨g, cap, cur, rfl, _, h5, h6, h7, h8, h9⟩
  · omega
  · have hz : ∀ c x, ICs ρ U w u c x → c.length = u.size := fun c x q => ICs.length q
    have hle : j * u.size + u.size ≤ xs.length * u.size := by rw [← Nat.succ_mul]; exact Nat.mul_le_mul_right _ hj
    have hget : xs.getD j u.dflt = xs[j] := by rw [List.getD_eq_getElem?_getD, List.getElem?_eq_getElem hj]; rfl
    subst h9
    refine ⟨g, cap, cur, _, rfl, h5, h8, h6, h7, by rw [hget]; exact Els.get hz h3 j hj, fun q hq => ?_, h3⟩
    rw [List.getElem?_take, if_pos hq, List.getElem?_drop, List.getElem?_take, if_pos (by omega)]
    simp
theorem gath_one {l : List A} {vs : List Value} (h : ∀ i, i < l.length → ∃ x, vs[i]? = some x ∧ RA ρ U w hd (atn .un l i) x) {u : T} (hp : u.isPair = false) {c : Nat} {y : u.den} (e : A.toV [] u (atn .un l c) = some y) :
    ∃ ds, ICs ρ U w u ds y ∧ ∀ j, j < u.size → vs[c + j]? = ds[j]? := by
  have hc : c < l.length := by
    rcases Nat.lt_or_ge c l.length with q | q
    · exact q
    · rw [atn_out _ _ _ q] at e
      cases u <;> simp [A.toV] at e
  obtain ⟨x, hx, hr⟩ := h c hc
  obtain ⟨cs, rfl, hi⟩ := toV0 e hr
  obtain ⟨v, rfl, _⟩ := ICs.one hp hi
  have hs := T.size_one _ hp
  refine ⟨[v], hi, fun j hj => ?_⟩
  obtain rfl : j = 0 := by omega
  rw [pack_one hp] at hx
  simpa using hx
theorem gath_ok {l : List A} {vs : List Value} (h : ∀ i, i < l.length → ∃ x, vs[i]? = some x ∧ RA ρ U w hd (atn .un l i) x) : ∀ {t : T} {c : Nat} {y : t.den}, gath l t c = some y → ∃ ds, ICs ρ U w t ds y ∧ ∀ j, j < t.size → vs[c + j]? = ds[j]?
  | .pair a b, c, y, e => by
    unfold gath at e
    split at e
    · rename_i x1 x2 h1 h2
      injection e with e
      subst e
      obtain ⟨d1, i1, j1⟩ := gath_ok h h1
      obtain ⟨d2, i2, j2⟩ := gath_ok h h2
      have l1 := ICs.length i1
      have hs : (T.pair a b).size = a.size + b.size := rfl
      refine ⟨d1 ++ d2, ⟨d1, d2, rfl, i1, i2⟩, fun j hj => ?_⟩
      by_cases hj1 : j < a.size
      · rw [List.getElem?_append_left (by omega)]
        exact j1 j hj1
      · rw [List.getElem?_append_right (by omega), l1, ← j2 (j - a.size) (by omega), show c + a.size + (j - a.size) = c + j by omega]
    · cases e
  | .int _, _, _, e => gath_one h rfl e
  | .bool, _, _, e => gath_one h rfl e
  | .flt, _, _, e => gath_one h rfl e
  | .list _, _, _, e => gath_one h rfl e
  | .obj _, _, _, e => gath_one h rfl e
  | .ptr _, _, _, e => gath_one h rfl e
  | .one t, c, y, e => gath_ok h (t := t) (c := c) (y := y) e
theorem load_sound (ok : TabOk P tab) {w0 : World} {U0 : Nat → Prop} {own : Nat} {fx : Nat → Bool} {hd0 : Nat → Value} {st : St} {a : Act} (H : Rel ρ w0 U0 own fx hd0 st a w hd) {t : TypeId} {x : Operand} (h : loadZ tab st t (ev st x) k = some r) :
    ∃ z v, k z = some r ∧ RA ρ (Us U0 st.ob.length hd) w hd z v ∧ (∀ j ∈ z.refs, j < st.ob.length) ∧ ∀ w', Ag (fun _ => False) w w' → (Instr.loadAt t (a.eval x)).run P w' = .ok v w' := by
  have he := H.ev_ x
  unfold loadZ at h
  split at h
  · rename_i i u y hf hx
    rw [hx] at he
    split at h
    · rename_i hu
      subst hu
      obtain ⟨b, off, cs, e, h1, h2⟩ := he
      refine ⟨_, _, h, ⟨cs, rfl, h1⟩, by simp [A.refs], fun w' hw' => ?_⟩
      rw [e]
      exact load_run ok hf h1 (h2 w' (hw'.mono (fun _ _ h => h.elim)))
    · cases h
  · rename_i i m j c s u hf hx
    rw [hx] at he
    split at h
    · rename_i e' u' xs hat
      split at h
      · rename_i hu
        obtain ⟨rfl, rfl⟩ := hu
        split at h
        · rename_i z hz
          obtain ⟨b, l, c', e1, e2, e3⟩ := he
          have hm : m < st.ob.length := by
            rcases Nat.lt_or_ge m st.ob.length with q | q
            · exact q
            · rw [atn_out _ _ _ q] at hat; cases hat
          have hro := H.ob m hm
          rw [hat] at hro
          have hl : l = xs.length := by
            obtain ⟨cs, q1, q2⟩ := hro
            obtain ⟨a', c'', q3, _⟩ := (own_hdr q1).1.form
            rw [e1] at q3
            injection q3
          subst hl
          obtain ⟨g, cap, cur, ds, q1, q2, q3, q4, q5, q6, q7, _⟩ := elem_cells hro e2
          rw [e1] at q1
          injection q1 with q1 _ _
          injection q1 with q1
          injection q1 with q1
          subst q1
          obtain ⟨k1, k2⟩ := ICs.sub _ q6 hz
          refine ⟨_, _, h, ⟨_, rfl, k1⟩, by simp [A.refs], fun w' hw' => ?_⟩
          rw [e3]
          refine load_run ok hf k1 (fun q hq => ?_)
          have hb : w'.heap[b]? = w.heap[b]? := hw'.block b (Array.getElem?_eq_some_iff.1 q2).1 (fun h => h)
          rw [List.getElem?_take, if_pos hq, List.getElem?_drop, ← q7 (c + q) (by omega)]
          simp [World.cell?, hb, q2, Nat.add_assoc]
        · cases h
      · cases h
    · cases h
  · rename_i i m c hf hx
    rw [hx] at he
    split at h
    · rename_i e' l hat
      have hm : m < st.ob.length := by
        rcases Nat.lt_or_ge m st.ob.length with q | q
        · exact q
        · rw [atn_out _ _ _ q] at hat; cases hat
      obtain ⟨b, e1, e2⟩ := he
      have hro := H.ob m hm
      rw [hat] at hro
      obtain ⟨b', vs, q1, q2, q3, q4, q5⟩ := hro
      rw [e1] at q1
      injection q1 with q1
      injection q1 with q1
      injection q1 with q1
      subst q1
      split at h
      · split at h
        · rename_i y hy
          obtain ⟨ds, g1, g2⟩ := gath_ok (vs := vs) (fun i hi => by
            obtain ⟨x, x1, _, x3⟩ := q5 i hi
            exact ⟨x, x1, x3⟩) hy
          refine ⟨_, _, h, ⟨ds, rfl, g1⟩, by simp [A.refs], fun w' hw' => ?_⟩
          have hb : w'.heap[b]? = w.heap[b]? := hw'.block b (Array.getElem?_eq_some_iff.1 q3).1 (fun h => h)
          rw [e2]
          refine load_run ok hf g1 (fun j hj => ?_)
          rw [← g2 j hj]
          simp [World.cell?, hb, q3]
        · cases h
      · rename_i hnp
        have hp : i.t.isPair = false := by simpa using hnp
        split at h
        · rename_i hc
          obtain ⟨y, hy, ho, hya⟩ := q5 c hc
          refine ⟨_, y, h, hya, fun j hj => H.wo m j (by rw [hat]; exact List.mem_flatMap.2 ⟨_, atn_mem _ _ _ hc, hj⟩), fun w' hw' => ?_⟩
          have hb : w'.heap[b]? = w.heap[b]? := hw'.block b (Array.getElem?_eq_some_iff.1 q3).1 (fun h => h)
          have hcell : w'.cell? ⟨b, c, none⟩ = some y := by simp [World.cell?, hb, q3, hy]
          have hag := isAgg_run ok hf w'
          rw [hp] at hag
          rw [e2]
          unfold Instr.loadAt loadVar
          simp only [Instr.sureAddr]
          rw [Sem.run_bind]
          simp only [Sem.run_pure, Result.andThen_ok]
          rw [Sem.run_bind, hag, Result.andThen_ok]
          simp [hcell, go_sem]
        · cases h
    · cases h
  · cases h
variable {w0 : World} {U0 : Nat → Prop} {own : Nat} {fx : Nat → Bool} {hd0 : Nat → Value} {st : St} {a : Act}
theorem own_mono {B B' sz n : Nat} {e : TypeId} {v : Value} {cs : List Value} (h : w.ownsRow B e sz v n cs) (hB : B' ≤ B) : w.ownsRow B' e sz v n cs := by
  obtain ⟨h1, h2⟩ := h
  refine ⟨h1, h2.imp id ?_⟩
  rintro ⟨g, cap, cur, e1, e2, e3⟩
  exact ⟨g, cap, cur, e1, Nat.le_trans hB e2, e3⟩
def upd (f : Nat → Value) (n : Nat) (v : Value) : Nat → Value := fun i => if i = n then v else f i
theorem upd_same (f : Nat → Value) (n : Nat) (v : Value) : upd f n v n = v := by simp [upd]
theorem upd_ne {f : Nat → Value} {n i : Nat} {v : Value} (h : i ≠ n) : upd f n v i = f i := by simp [upd, h]
theorem us_new {w : World} {hd : Nat → Value} {m : Nat} {v : Value} (hv : ∀ b, blk v = some b → w.heap.size ≤ b) : ∀ b, b < w.heap.size → Us U0 (m + 1) (upd hd m v) b → Us U0 m hd b := by
  rintro b hb (hu | ⟨i, hi, hib⟩)
  · exact .inl hu
  · by_cases e : i = m
    · subst e
      rw [upd_same] at hib
      have := hv b hib
      omega
    · rw [upd_ne e] at hib
      exact .inr ⟨i, by omega, hib⟩
/-- A new row. -/
theorem Rel.newRow (H : Rel ρ w0 U0 own fx hd0 st a w hd) {w' : World} (k : Ag (fun _ => False) w w') {e : TypeId} {t : T} {xs : List t.den} {v : Value} {cs : List Value} (ho : w'.ownsRow w.heap.size e t.size v xs.length cs)
    (hE : Els (ICs ρ (Us U0 st.ob.length hd) w t) cs xs) (d : Option Tmp) : Rel ρ w0 U0 own fx hd0 (St.put ⟨st.tm, st.ob ++ [.row e t xs]⟩ d (.row st.ob.length)) (a.put d v) w' (upd hd st.ob.length v) := by
  have hb : ∀ b, blk v = some b → w.heap.size ≤ b := fun b hb => (own_blk ho hb).1
  have ht : Tr (Us U0 st.ob.length hd) w (Us U0 (st.ob.length + 1) (upd hd st.ob.length v)) w' := Tr.of k (fun _ _ h => h.elim) (us_new hb)
  have h1 := H.new k (o := .row e t xs) (v := v) (upd hd st.ob.length v) (fun i hi => upd_ne (by omega)) (upd_same _ _ _) (by simp [Ob.refs]) hb ⟨cs, own_mono ho H.ag.size, hE.mono (fun _ _ q => ICs.tr ht q)⟩
  exact h1.put (by simp [RA, upd_same]) (by simp [A.refs]) d
theorem flat_get (zs : List Value) : ∀ (n j : Nat), (List.replicate n zs).flatten[j]? = if j < n * zs.length then zs[j % zs.length]? else none
  | 0, j => by simp
  | n + 1, j => by
    rw [List.replicate_succ, List.flatten_cons]
    rcases Nat.lt_or_ge j zs.length with h | h
    · rw [List.getElem?_append_left h, if_pos (by rw [Nat.succ_mul]; omega), Nat.mod_eq_of_lt h]
    · rw [List.getElem?_append_right h, flat_get zs n (j - zs.length)]
      have e : (n + 1) * zs.length = n * zs.length + zs.length := Nat.succ_mul _ _
      have e2 : (j - zs.length) % zs.length = j % zs.length := (Nat.mod_eq_sub_mod h).symm
      by_cases hj : j < (n + 1) * zs.length
      · rw [if_pos hj, if_pos (by omega), e2]
      · rw [if_neg hj, if_neg (by omega)]
theorem made_flat (zs : List Value) (n : Nat) (hz : 0 < zs.length) : (madeCells zs.toArray (n * zs.length)).toList = (List.replicate n zs).flatten := by
  apply List.ext_getElem?
  intro j
  rw [flat_get]
  simp only [madeCells, Array.toList_map, Array.toList_range, List.getElem?_map, List.size_toArray]
  by_cases h : j < n * zs.length
  · have hm : j % zs.length < zs.length := Nat.mod_lt _ hz
    rw [if_pos h, List.getElem?_range h]
    simp [List.getElem?_eq_getElem hm]
  · rw [if_neg h, List.getElem?_eq_none (by simp; omega)]
    rfl
theorem zero_len : ∀ t : T, (zeroC t).length = t.size
  | .int _ => rfl
  | .bool => rfl
  | .flt => rfl
  | .list _ => rfl
  | .pair a b => by simp [zeroC, T.size, zero_len a, zero_len b]
  | .obj _ => rfl
  | .ptr _ => rfl
  | .one t => zero_len t
/-- make([]T, 0, m). -/
theorem make_cap (ok : TabOk P tab) {t e : TypeId} {i : TI} (h : elemZ tab t = some (e, i)) {m : Int} (h0 : 0 ≤ m) (hm : m.toNat * i.bytes ≤ 140737488355328) (w : World) : ∃ v w', (Instr.makeSlice t (.int .i64 0) (.int .i64 m)).run P w = .ok v w' ∧ w'.ownsRow w.heap.size e i.t.size v 0 [] ∧ Ag (fun _ => False) w w' := by
  obtain ⟨h1, h2⟩ := elem_ok ok h
  obtain ⟨inf, i1, i2, i3, i4, i5⟩ := ok.info _ _ h2
  have hle : m.toNat ≤ 140737488355328 := Nat.le_trans (Nat.le_mul_of_pos_right _ i4) hm
  obtain ⟨w', q1, q2, q3⟩ := run_make_own (P := P) w w.heap.size t e inf _ i.t.size h1 i1 i5 i2 .i64 .i64 m.toNat (by rw [i3, Nat.mul_comm]; omega) (by unfold maxLen; omega) (Nat.le_refl _)
  rw [Int.toNat_of_nonneg h0] at q1
  exact ⟨_, w', q1, q2, Ag.of_grown q3 (fun b hb => by cases hb)⟩
/-- make([]T, m). -/
theorem make_full (ok : TabOk P tab) {t e : TypeId} {i : TI} (h : elemZ tab t = some (e, i)) {m : Int} (h0 : 0 ≤ m) (hm : m.toNat * i.bytes ≤ 140737488355328) (w : World) : ∃ v w', (Instr.makeSlice t (.int .i64 m) (.int .i64 m)).run P w = .ok v w' ∧ w'.ownsRow w.heap.size e i.t.size v m.toNat (List.replicate m.toNat (zeroC i.t)).flatten ∧ Ag (fun _ => False) w w' := by
  obtain ⟨h1, h2⟩ := elem_ok ok h
  obtain ⟨inf, i1, i2, i3, i4, i5⟩ := ok.info _ _ h2
  have hle : m.toNat ≤ 140737488355328 := Nat.le_trans (Nat.le_mul_of_pos_right _ i4) hm
  have hz := zero_len i.t
  have hp := T.size_pos i.t
  have hb : (i.bytes : Int) * m ≤ 281474976710656 := by
    have h3 : ((i.bytes * m.toNat : Nat) : Int) ≤ 281474976710656 := by rw [Nat.mul_comm]; omega
    rwa [Int.natCast_mul, Int.toNat_of_nonneg h0] at h3
  have hr := run_make (P := P) w t e inf _ h1 i1 i5 .i64 .i64 m m h0 (Int.le_refl _) (by rw [i3]; exact hb) (by omega)
  refine ⟨_, _, hr, ?_, ⟨rfl, rfl, rfl, by simp, fun b hb _ => Below.heap_alloc w _ b hb⟩⟩
  have hpc : (pack i.t (zeroC i.t)).cells = (zeroC i.t).toArray := pack_cs (zero_ics (ρ := fun _ _ _ _ => True) (U := fun _ => True) (w := w) i.t)
  rw [hpc, i2, ← hz]
  have hf := made_flat (zeroC i.t) m.toNat (by omega)
  refine ⟨by rw [← hf]; simp [madeCells], .inr ⟨w.heap.size, _, _, rfl, Nat.le_refl _, heap_alloc_new w _, Nat.le_refl _, by unfold maxLen; omega, by simp [madeCells], ?_⟩⟩
  rw [← hf, List.take_of_length_le (by simp [madeCells])]
/-- Numbered parts, one behind the other, fill a row from element i0 on. -/
theorem fill_row (sz : Nat) : ∀ (vs : List (List Value)) (ws : List Value) (i0 : Nat) (pre post : List Value), All2 (fun c v => c.length = sz ∧ v.cells = c.toArray) vs ws → pre.length = i0 * sz → post.length = vs.length * sz →
    Instr.fill (fun i => some (i * sz, sz)) (pre ++ post).toArray (ws.zipIdx i0 |>.map fun p => (p.2, p.1)) = some (pre ++ vs.flatten).toArray
  | [], [], i0, pre, post, _, _, h => by
    have : post = [] := List.eq_nil_of_length_eq_zero (by simpa using h)
    subst this
    simp [Instr.fill]
  | [], _ :: _, _, _, _, h, _, _ => h.elim
  | _ :: _, [], _, _, _, h, _, _ => h.elim
  | c :: vs, v :: ws, i0, pre, post, ⟨⟨h1, h2⟩, h3⟩, hp, hq => by
    rw [List.length_cons, Nat.succ_mul] at hq
    rw [List.zipIdx_cons, List.map_cons]
    simp only
    rw [fill_ok (ds := c) (by rw [h1]) h2 (by rw [List.length_append]; omega)]
    rw [← hp, List.take_left' rfl, h1, ← List.drop_drop, List.drop_left' rfl]
    have := fill_row sz vs ws (i0 + 1) (pre ++ c) (post.drop sz) h3 (by rw [List.length_append, h1, hp, Nat.succ_mul]) (by rw [List.length_drop]; omega)
    rw [this, List.flatten_cons, List.append_assoc]
theorem parts_all {st : St} {ev' : Operand → Value} (ob : List Ob) {u : T} : ∀ (ps : List (Nat × Operand)) (m : Nat) {l : List u.den}, (∀ p ∈ ps, ∀ y, A.toV ob u (ev st p.2) = some y → ∃ cs, ev' p.2 = pack u cs ∧ ICs ρ U w u cs y) → partsV ob u m (ps.map fun p => (p.1, ev st p.2)) = some l →
    ∃ vs, All2 (fun c v => c.length = u.size ∧ v.cells = List.toArray c) vs (ps.map fun p => ev' p.2) ∧ Els (ICs ρ U w u) vs.flatten l ∧ vs.length = l.length ∧ (ps.map fun p => (p.1, ev' p.2)) = ((ps.map fun p => ev' p.2).zipIdx m).map fun p => (p.2, p.1)
  | [], m, l, _, h => by cases h; exact ⟨[], trivial, rfl, rfl, rfl⟩
  | (j, x) :: ps, m, l, hv, h => by
    simp only [List.map_cons, partsV] at h
    split at h
    · rename_i hj
      subst hj
      split at h
      · rename_i y ys hy hys
        cases h
        obtain ⟨c, e1, e2⟩ := hv (j, x) (by simp) y hy
        simp only at e1
        obtain ⟨vs, q1, q2, q3, q4⟩ := parts_all ob ps (j + 1) (fun p hp => hv p (by simp [hp])) hys
        refine ⟨c :: vs, ⟨⟨ICs.length e2, by show (ev' x).cells = _; rw [e1]; exact pack_cs e2⟩, q1⟩, ⟨c, _, rfl, e2, q2⟩, by simp [q3], ?_⟩
        simp only [List.map_cons, List.zipIdx_cons, q4]
      · cases h
    · cases h
/-- A slice literal. -/
theorem build_row (ok : TabOk P tab) {t e : TypeId} {i : TI} (h : elemZ tab t = some (e, i)) {vs : List (List Value)} {ws : List Value} {parts : Array (Nat × Value)} (hp : parts.toList = (ws.zipIdx 0).map fun p => (p.2, p.1)) (ha : All2 (fun c v => c.length = i.t.size ∧ v.cells = List.toArray c) vs ws) (hs : vs.length * i.t.size ≤ 16777216) (w : World) :
    ∃ v w', (Instr.buildSlice t vs.length parts).run P w = .ok v w' ∧ w'.ownsRow w.heap.size e i.t.size v vs.length vs.flatten ∧ Ag (fun _ => False) w w' := by
  obtain ⟨h1, h2⟩ := elem_ok ok h
  obtain ⟨inf, i1, i2, i3, i4, i5⟩ := ok.info _ _ h2
  have hz := zero_len i.t
  have hps := T.size_pos i.t
  have hpc : (pack i.t (zeroC i.t)).cells = (zeroC i.t).toArray := pack_cs (zero_ics (ρ := fun _ _ _ _ => True) (U := fun _ => True) (w := w) i.t)
  have hlen : vs.flatten.length = vs.length * i.t.size := by
    clear hs hp
    induction vs generalizing ws with
    | nil => simp
    | cons c vs ih => cases ws with
      | nil => exact ha.elim
      | cons v ws => rw [List.flatten_cons, List.length_append, ha.1.1, ih ha.2, List.length_cons, Nat.succ_mul]; omega
  rcases Nat.eq_zero_or_pos vs.length with h0 | h0
  · have hvs : vs = [] := List.eq_nil_of_length_eq_zero h0
    subst hvs
    have hws : ws = [] := by cases ws with
      | nil => rfl
      | cons _ _ => exact ha.elim
    subst hws
    have hr : (Instr.buildSlice t 0 parts).run P w = .ok (.slice (some ⟨w.heap.size, 0, none⟩) 0 0) (w.alloc (.cells #[] e)) := by
      have : parts = #[] := by
        apply Array.toList_inj.1
        simpa using hp
      subst this
      simp [Instr.buildSlice, run_underlying h1, sizeOf, typeInfo, i1, Instr.fill, Go.newRow, Array.range_zero']
    refine ⟨_, _, hr, ⟨by simp, .inr ⟨w.heap.size, 0, #[], rfl, Nat.le_refl _, heap_alloc_new w _, Nat.le_refl _, Nat.zero_le _, by simp, by simp⟩⟩, ⟨rfl, rfl, rfl, by simp, fun b hb _ => Below.heap_alloc w _ b hb⟩⟩
  · have hpos : 0 < vs.length * i.t.size := Nat.mul_pos h0 hps
    have hm := made_flat (zeroC i.t) vs.length (by omega)
    have hfill := fill_row i.t.size vs ws 0 [] (List.replicate vs.length (zeroC i.t)).flatten ha (by simp) (by rw [← hm, hz]; simp [madeCells])
    simp only [List.nil_append] at hfill
    have hr := run_buildSlice (P := P) w t e vs.length parts vs.flatten.toArray inf _ h1 i1 i5 (by rw [i2]; omega) (by rw [i2]; omega) (by
      have hm' : madeCells (zeroC i.t).toArray (vs.length * (zeroC i.t).length) = (List.replicate vs.length (zeroC i.t)).flatten.toArray := by rw [← hm, Array.toArray_toList]
      rw [hpc, i2, hp, ← hfill, ← hm', hz]
      rfl)
    refine ⟨_, _, hr, ⟨hlen, .inr ⟨w.heap.size, _, _, rfl, Nat.le_refl _, heap_alloc_new w _, Nat.le_refl _, ?_, by simp [hlen], by simp only [List.take_of_length_le (Nat.le_of_eq hlen)]⟩⟩, ⟨rfl, rfl, rfl, by simp, fun b hb _ => Below.heap_alloc w _ b hb⟩⟩
    have : vs.length ≤ vs.length * i.t.size := Nat.le_mul_of_pos_right _ hps
    unfold maxLen
    omega
theorem us_same {w : World} {hd : Nat → Value} {m n : Nat} {v : Value} (hv : ∀ b, blk v = some b → blk (hd m) = some b ∨ w.heap.size ≤ b) : ∀ b, b < w.heap.size → Us U0 n (upd hd m v) b → Us U0 n hd b := by
  rintro b hb (hu | ⟨i, hi, hib⟩)
  · exact .inl hu
  · by_cases e : i = m
    · subst e
      rw [upd_same] at hib
      rcases hv b hib with h | h
      · exact .inr ⟨i, hi, h⟩
      · omega
    · rw [upd_ne e] at hib
      exact .inr ⟨i, hi, hib⟩
/-- A row's content, known for ever once nobody writes the row any more. -/
theorem row_ird {B : Nat} {e : TypeId} {t : T} {xs : List t.den} {v : Value} (h : RO ρ U w hd B (.row e t xs) v) {U' : Nat → Prop} (hU : ∀ b, b < w.heap.size → U' b → U b) (hv : ∀ b, blk v = some b → ¬ U' b) :
    IRd ρ U' w (.list t) v xs ∧ ∀ n a l c c', v = .slice a l c → n ≤ l → (n ≤ c') → IRd ρ U' w (.list t) (.slice a n c') (xs.take n) := by
  obtain ⟨cs, h1, h2⟩ := h
  have ht : Tr U w U' w := Tr.of (V := fun _ => False) (Ag.refl _ _) (fun _ _ h => h.elim) hU
  have hz : ∀ c x, ICs ρ U' w t c x → c.length = t.size := fun c x q => ICs.length q
  have h3 : Els (ICs ρ U' w t) cs xs := h2.mono (fun _ _ q => ICs.tr ht q)
  obtain ⟨hl, h4⟩ := h1
  rcases h4 with ⟨rfl, h0⟩ | ⟨g, cap, cur, rfl, _, h5, h6, h7, h8, h9⟩
  · have hx : xs = [] := List.eq_nil_of_length_eq_zero h0
    subst hx
    refine ⟨⟨[.slice none 0 0], rfl, none, 0, [], rfl, Nat.zero_le _, Nat.le_refl _, rfl, fun h => absurd h (by simp)⟩, fun n a l c c' e hn hc => ?_⟩
    injection e with e1 e2 e3
    subst e1 e2 e3
    have : n = 0 := by omega
    subst this
    exact ⟨[.slice none 0 c'], rfl, none, c', [], rfl, Nat.zero_le _, by simp, rfl, fun h => absurd h (by simp)⟩
  · have hcell : ∀ w', Ag U' w w' → ∀ j, j < cs.length → w'.cell? ⟨g, 0 + j, none⟩ = cs[j]? := fun w' hw' j hj => by
      have hb : w'.heap[g]? = w.heap[g]? := hw'.block g (Array.getElem?_eq_some_iff.1 h5).1 (hv g rfl)
      rw [Nat.zero_add, ← h9, List.getElem?_take, if_pos (by omega)]
      simp [World.cell?, hb, h5]
    refine ⟨⟨[.slice (some ⟨g, 0, none⟩) xs.length cap], rfl, _, cap, cs, rfl, Nat.le_trans h6 h7, h6, h3, fun _ => ⟨g, 0, rfl, hcell⟩⟩, fun n a l c c' e hn hc => ?_⟩
    injection e with e1 e2 e3
    subst e1 e2 e3
    have hln : (xs.take n).length = n := by rw [List.length_take]; omega
    refine ⟨[.slice (some ⟨g, 0, none⟩) n c'], rfl, _, c', cs.take (n * t.size), by rw [hln], by rw [hln]; omega, by rw [hln]; exact hc, Els.take hz h3 n, fun _ => ⟨g, 0, rfl, fun w' hw' j hj => ?_⟩⟩
    rw [List.length_take] at hj
    rw [hcell w' hw' j (by omega), List.getElem?_take, if_pos (by omega)]
/-- Object m becomes another one, where it lies. -/
theorem Rel.set (h : Rel ρ w0 U0 own fx hd0 st a w hd) {m : Nat} (hm : m < st.ob.length) {w' : World} (hag : Ag (fun b => blk (hd m) = some b) w w') {o' : Ob} (hor : ∀ j ∈ o'.refs, j < st.ob.length)
    (hro : RO ρ (Us U0 st.ob.length hd) w' hd (if m < own then 0 else w0.heap.size) o' (hd m)) : Rel ρ w0 U0 own fx hd0 ⟨st.tm, setn o' st.ob m⟩ a w' hd := by
  have ht : Tr (Us U0 st.ob.length hd) w (Us U0 st.ob.length hd) w' := Tr.of hag (fun b _ hb => .inr ⟨m, hm, hb⟩) (fun _ _ h => h)
  have hlen : (setn o' st.ob m).length = st.ob.length := length_setn _ _ _
  have hoth : ∀ i, i < st.ob.length → i ≠ m → ∀ b, blk (hd i) = some b → w'.heap[b]? = w.heap[b]? := fun i hi e b hb => hag.block b (h.lt hi hb) (fun hb' => h.ne i m hi hm e b hb hb')
  refine ⟨h.sz, h.df, fun i v hv => ?_, fun i hi => ?_, fun i j hi hj => ?_, h.keep, h.kp, by rw [hlen]; exact h.ow, ?_, h.u0, fun i j hj => ?_, fun i j hj => ?_⟩
  · rw [hlen]
    exact RA.tr ht (fun _ _ => rfl) (h.sl i v hv)
  · rw [hlen] at hi ⊢
    by_cases e : m = i
    · subst e
      have e3 : atn Ob.gone (setn o' st.ob m) m = o' := by rw [atn_setn, if_pos ⟨rfl, hm⟩]
      rw [e3]
      exact hro
    · have e3 : atn Ob.gone (setn o' st.ob m) i = atn Ob.gone st.ob i := by rw [atn_setn, if_neg (fun hc => e hc.1)]
      rw [e3]
      exact RO.tr ht (fun _ _ => rfl) (hoth i hi (Ne.symm e)) (h.ob i hi)
  · rw [hlen] at hi hj
    exact h.ne i j hi hj
  · refine ⟨hag.os.trans h.ag.os, hag.tape.trans h.ag.tape, hag.output.trans h.ag.output, Nat.le_trans h.ag.size hag.size, fun b hb hn => ?_⟩
    refine (hag.block b (Nat.lt_of_lt_of_le hb h.ag.size) (fun hbm => ?_)).trans (h.ag.block b hb hn)
    rcases Nat.lt_or_ge m own with h1 | h1
    · rcases h.kp m h1 b hbm with h2 | h2
      · exact hn (.inr ⟨m, h1, h2⟩)
      · omega
    · have := h.ge hm h1 hbm
      omega
  · rw [hlen]
    exact h.wt i j hj
  · rw [hlen]
    rw [atn_setn] at hj
    split at hj
    · exact hor j hj
    · exact h.wo i j hj
theorem us_drop (H : Rel ρ w0 U0 own fx hd0 st a w hd) {m : Nat} (hm : m < st.ob.length) : ∀ b, blk (hd m) = some b → ¬ Us U0 st.ob.length (upd hd m nilV) b := by
  rintro b hb (hu | ⟨i, hi, hib⟩)
  · exact H.u0n hm hb hu
  · by_cases e : i = m
    · subst e
      rw [upd_same] at hib
      simp [blk, nilV] at hib
    · rw [upd_ne e] at hib
      exact H.ne i m hi hm e b hib hb
theorem blk_nilV : blk nilV = none := rfl
/-- A row is read for ever. -/
theorem Rel.frz (H : Rel ρ w0 U0 own fx hd0 st a w hd) {m : Nat} {e : TypeId} {t : T} {xs : List t.den} (hat : atn .gone st.ob m = .row e t xs) (ho : own ≤ m) : Rel ρ w0 U0 own fx hd0 (st.frz m) a w (upd hd m nilV) := by
  have hm : m < st.ob.length := by
    rcases Nat.lt_or_ge m st.ob.length with q | q
    · exact q
    · rw [atn_out _ _ _ q] at hat; cases hat
  have hro := H.ob m hm
  rw [hat] at hro
  have hU : ∀ b, b < w.heap.size → Us U0 st.ob.length (upd hd m nilV) b → Us U0 st.ob.length hd b := us_same (w := w) (fun b hb => by rw [blk_nilV] at hb; cases hb)
  have hri := row_ird hro hU (us_drop H hm)
  have := H.turn hm (w' := w) (Ag.refl _ _) (o := .row e t xs) (o' := .gone) (v' := nilV) (upd hd m nilV) (fun i hi => upd_ne hi) (upd_same _ _ _) (fun h _ => by omega) (fun b hb => by rw [blk_nilV] at hb; cases hb) (by simp [Ob.refs])
    (fun e' t' xs' heq => by cases heq; exact hri) rfl
  unfold St.frz
  rw [hat]
  exact this
/-- What is read as a value: known as long as memory stays, but for U'. -/
theorem toV_ird (H : Rel ρ w0 U0 own fx hd0 st a w hd) {u : T} {x : A} {v : Value} {y : u.den} (h : A.toV st.ob u x = some y) (hx : RA ρ (Us U0 st.ob.length hd) w hd x v) {U' : Nat → Prop} (hU : ∀ b, b < w.heap.size → U' b → Us U0 st.ob.length hd b)
    (hrow : ∀ i ∈ x.rowOf, ∀ b, blk (hd i) = some b → ¬ U' b) : IRd ρ U' w u v y := by
  have ht : Tr (Us U0 st.ob.length hd) w U' w := Tr.of (V := fun _ => False) (Ag.refl _ _) (fun _ _ h => h.elim) hU
  unfold A.toV at h
  split at h
  · split at h
    · rename_i e
      subst e
      cases h
      exact IRd.tr hx ht
    · cases h
  · split at h
    · cases h
      exact ⟨[.slice none 0 0], hx, none, 0, [], rfl, Nat.zero_le _, Nat.le_refl _, rfl, fun h => absurd h (by simp)⟩
    · cases h
  · split at h
    · cases h
      exact ⟨[.pointer none], hx, _, rfl, rfl⟩
    · cases h
      exact ⟨[.pointer none], hx, _, rfl, rfl⟩
    · cases h
  · rename_i i
    split at h
    · rename_i e t xs hat
      split at h
      · rename_i hu
        subst hu
        cases h
        have hi : i < st.ob.length := by
          rcases Nat.lt_or_ge i st.ob.length with q | q
          · exact q
          · rw [atn_out _ _ _ q] at hat; cases hat
        have hro := H.ob i hi
        rw [hat] at hro
        have e1 : v = hd i := hx
        subst e1
        exact (row_ird hro hU (hrow i (by simp [A.rowOf]))).1
      · cases h
    · cases h
  · rename_i i nn f
    split at h
    · rename_i e t xs hat
      split at h
      · rename_i hu
        subst hu
        cases h
        have hi : i < st.ob.length := by
          rcases Nat.lt_or_ge i st.ob.length with q | q
          · exact q
          · rw [atn_out _ _ _ q] at hat; cases hat
        have hro := H.ob i hi
        rw [hat] at hro
        obtain ⟨a0, l, c, c', e1, e2, rfl, e3, _⟩ := hx
        exact (row_ird hro hU (hrow i (by simp [A.rowOf]))).2 nn a0 l c c' e1 e2 e3
      · cases h
    · cases h
  · cases h
/-- What is to be read for ever is frozen. -/
theorem Rel.thaw (H : Rel ρ w0 U0 own fx hd0 st a w hd) {x : A} (hb : x.thawB own = true) (hxl : ∀ j ∈ x.refs, j < st.ob.length) : ∃ hd', Rel ρ w0 U0 own fx hd0 (x.thaw st) a w hd' ∧ (x.thaw st).ob.length = st.ob.length ∧ (∀ i, i ∉ x.rowOf → hd' i = hd i) ∧ (∀ b, Us U0 st.ob.length hd' b → Us U0 st.ob.length hd b) ∧
    ∀ {u : T} {v : Value} {y : u.den}, A.toV st.ob u x = some y → RA ρ (Us U0 st.ob.length hd) w hd x v → IRd ρ (Us U0 st.ob.length hd') w u v y := by
  have main : ∀ i, own ≤ i → i < st.ob.length → x.rowOf = [i] → x.thaw st = st.frz i → ∃ hd', Rel ρ w0 U0 own fx hd0 (x.thaw st) a w hd' ∧ (x.thaw st).ob.length = st.ob.length ∧ (∀ i, i ∉ x.rowOf → hd' i = hd i) ∧ (∀ b, Us U0 st.ob.length hd' b → Us U0 st.ob.length hd b) ∧
    ∀ {u : T} {v : Value} {y : u.den}, A.toV st.ob u x = some y → RA ρ (Us U0 st.ob.length hd) w hd x v → IRd ρ (Us U0 st.ob.length hd') w u v y := by
    intro i ho hi hr hth
    rw [hth]
    cases hat : atn .gone st.ob i with
    | row e t xs =>
      have hus : ∀ b, Us U0 st.ob.length (upd hd i nilV) b → Us U0 st.ob.length hd b := by
        rintro b (hu | ⟨q, hq, hqb⟩)
        · exact .inl hu
        · by_cases e : q = i
          · subst e; rw [upd_same, blk_nilV] at hqb; cases hqb
          · rw [upd_ne e] at hqb; exact .inr ⟨q, hq, hqb⟩
      refine ⟨_, H.frz hat ho, by simp only [St.frz, hat]; rw [length_setn, length_mapn], fun j hj => upd_ne (by rw [hr] at hj; simpa using hj), hus, fun hy hx => toV_ird H hy hx (fun b _ hb => hus b hb) (fun j hj => ?_)⟩
      rw [hr] at hj
      have : j = i := by simpa using hj
      subst this
      exact us_drop H hi
    | cells e l => exact ⟨hd, by simp only [St.frz, hat]; exact H, by simp only [St.frz, hat], fun _ _ => rfl, fun _ h => h, fun hy hx => by
        exfalso
        unfold A.toV at hy
        split at hy <;> simp [A.rowOf] at hr
        · subst hr; rw [hat] at hy; cases hy
        · subst hr; rw [hat] at hy; cases hy⟩
    | gone => exact ⟨hd, by simp only [St.frz, hat]; exact H, by simp only [St.frz, hat], fun _ _ => rfl, fun _ h => h, fun hy hx => by
        exfalso
        unfold A.toV at hy
        split at hy <;> simp [A.rowOf] at hr
        · subst hr; rw [hat] at hy; cases hy
        · subst hr; rw [hat] at hy; cases hy⟩
  have other : x.rowOf = [] → x.thaw st = st → ∃ hd', Rel ρ w0 U0 own fx hd0 (x.thaw st) a w hd' ∧ (x.thaw st).ob.length = st.ob.length ∧ (∀ i, i ∉ x.rowOf → hd' i = hd i) ∧ (∀ b, Us U0 st.ob.length hd' b → Us U0 st.ob.length hd b) ∧
    ∀ {u : T} {v : Value} {y : u.den}, A.toV st.ob u x = some y → RA ρ (Us U0 st.ob.length hd) w hd x v → IRd ρ (Us U0 st.ob.length hd') w u v y := fun hr hth => by
    rw [hth]
    exact ⟨hd, H, rfl, fun _ _ => rfl, fun _ h => h, fun hy hx => toV_ird H hy hx (fun _ _ h => h) (fun j hj => by rw [hr] at hj; cases hj)⟩
  cases x with
  | row i => exact main i (by simpa [A.thawB] using hb) (hxl i (by simp [A.refs])) rfl rfl
  | cut i n f => exact main i (by simpa [A.thawB] using hb) (hxl i (by simp [A.refs])) rfl rfl
  | _ => exact other rfl rfl
end
end Go.Proofs.Ythbojpaghbbnnaa.Z
namespace Go.Proofs.Ythbojpaghbbnnaa.Z
open Go Go.RowKit
set_option linter.unusedVariables false
set_option linter.unusedSimpArgs false
section
variable {P : Program} {tab : Tab} {ρ : Obs} {U : Nat → Prop} {w : World} {hd : Nat → Value} {w0 : World} {U0 : Nat → Prop} {own : Nat} {fx : Nat → Bool} {hd0 : Nat → Value} {st : St} {a : Act}
theorem splice_take {α : Type} (cur vs : List α) (o N : Nat) (h : o + vs.length ≤ N) (hN : N ≤ cur.length) : (cur.take o ++ vs ++ cur.drop (o + vs.length)).take N = (cur.take N).take o ++ vs ++ (cur.take N).drop (o + vs.length) := by
  rw [List.take_append, List.take_of_length_le (by simp; omega), List.take_take, Nat.min_eq_left (by omega)]
  congr 1
  rw [List.drop_take]
  congr 1
  simp
  omega
theorem splice_elem {α : Type} (cs ds vs : List α) (j c sz : Nat) (hd : ds = (cs.drop (j * sz)).take sz) (hc : c + vs.length ≤ sz) (hl : j * sz + sz ≤ cs.length) :
    cs.take (j * sz + c) ++ vs ++ cs.drop (j * sz + c + vs.length) = cs.take (j * sz) ++ (ds.take c ++ vs ++ ds.drop (c + vs.length)) ++ cs.drop (j * sz + sz) := by
  subst hd
  rw [List.take_add, List.take_take, Nat.min_eq_left (by omega), List.drop_take, List.drop_drop]
  have h1 : cs.drop (j * sz + c + vs.length) = (cs.drop (j * sz + (c + vs.length))).take (sz - (c + vs.length)) ++ cs.drop (j * sz + sz) := by
    rw [← Nat.add_assoc]
    conv => lhs; rw [← List.take_append_drop (sz - (c + vs.length)) (cs.drop (j * sz + c + vs.length))]
    rw [List.drop_drop]
    congr 2
    omega
  rw [h1]
  simp only [List.append_assoc]
theorem setRow_ag (w : World) (g : Nat) (cs : Array Value) {v : Value} (hv : blk v = some g) : Ag (fun b => blk v = some b) w (w.setRow g cs) :=
  ⟨rfl, rfl, rfl, by simp, fun b hb hn => setRow_other w g b cs (fun e => hn (by rw [hv, e]))⟩
theorem storeVar_run (ok : TabOk P tab) {id : TypeId} {i : TI} (h : tab.find id = some i) {v : Value} {vs : List Value} (hv : v.cells = vs.toArray) (hl : vs.length = i.t.size) (h1 : ∀ v ∈ vs, v.oneCell' = true) {g o : Nat} {t : TypeId} {cur : Array Value} (hg : w.heap[g]? = some (.cells cur t (0, 0))) (ho : o + vs.length ≤ cur.size) :
    (Instr.storeAt id (.pointer (some ⟨g, o, none⟩)) v).run P w = .ok () (w.setRow g (cur.toList.take o ++ vs ++ cur.toList.drop (o + vs.length)).toArray) := by
  have h2 := sizeOf_run ok h w
  unfold Instr.storeAt storeVar
  simp only [Instr.sureAddr]
  rw [Sem.run_bind]
  simp only [Sem.run_pure, Result.andThen_ok]
  rw [Sem.run_bind, h2, Result.andThen_ok, hv]
  have h3 : ¬ (vs.toArray.size ≠ i.t.size) := by simp [hl]
  rw [if_neg h3]
  have := run_storeCells_at (P := P) g o t vs 0 cur w hg (by omega) h1
  simpa using this
/-- A store into an element of an own row. -/
theorem store_row (ok : TabOk P tab) (H : Rel ρ w0 U0 own fx hd0 st a w hd) {id : TypeId} {i : TI} (hf : tab.find id = some i) {m j c : Nat} {e : TypeId} {t : T} {xs : List t.den} {z : t.den} {y : i.t.den} (hat : atn .gone st.ob m = .row e t xs) (hj : j < xs.length)
    (hz : T.upd i.t y t c (xs.getD j t.dflt) = some z) {b : Nat} {l cp : Nat} (hb : hd m = .slice (some ⟨b, 0, none⟩) l cp) {v : Value} (hv : IRd ρ (Us U0 st.ob.length hd) w i.t v y) :
    ∃ w', (Instr.storeAt id (.pointer (some ⟨b, j * t.size + c, none⟩)) v).run P w = .ok () w' ∧ Rel ρ w0 U0 own fx hd0 ⟨st.tm, setn (.row e t (xs.set j z)) st.ob m⟩ a w' hd := by
  have hm : m < st.ob.length := by
    rcases Nat.lt_or_ge m st.ob.length with q | q
    · exact q
    · rw [atn_out _ _ _ q] at hat; cases hat
  have hro := H.ob m hm
  rw [hat] at hro
  have hro2 := hro
  obtain ⟨cs0, hown, hels⟩ := hro2
  obtain ⟨g, cap, cur, ds, q1, q2, q3, q4, q5, q6, q7, q8⟩ := elem_cells hro hj
  rw [hb] at q1
  injection q1 with q1 ql qc
  injection q1 with q1
  injection q1 with q1
  subst q1
  obtain ⟨vs, rfl, hvs⟩ := hv
  have hvl := ICs.length hvs
  have hz0 : ∀ c x, ICs ρ (Us U0 st.ob.length hd) w t c x → c.length = t.size := fun c x q => ICs.length q
  have hle : j * t.size + t.size ≤ xs.length * t.size := by rw [← Nat.succ_mul]; exact Nat.mul_le_mul_right _ hj
  have hcap : xs.length * t.size ≤ cap * t.size := Nat.mul_le_mul_right _ q4
  obtain ⟨k1, k2⟩ := ICs.upd i.t hvs q6 hz
  have hr := storeVar_run ok hf (pack_cs hvs) hvl (ICs.ones hvs) q2 (o := j * t.size + c) (by omega)
  refine ⟨_, hr, ?_⟩
  have hag := setRow_ag w b (cur.toList.take (j * t.size + c) ++ vs ++ cur.toList.drop (j * t.size + c + vs.length)).toArray (v := hd m) (by rw [hb]; rfl)
  refine H.set hm hag (by simp [Ob.refs]) ?_
  have ht : Tr (Us U0 st.ob.length hd) w (Us U0 st.ob.length hd) (w.setRow b (cur.toList.take (j * t.size + c) ++ vs ++ cur.toList.drop (j * t.size + c + vs.length)).toArray) := Tr.of hag (fun b _ hb => .inr ⟨m, hm, hb⟩) (fun _ _ h => h)
  have hdl : ds = ((cur.toList.take (xs.length * t.size)).drop (j * t.size)).take t.size := by
    apply List.ext_getElem?
    intro q
    rcases Nat.lt_or_ge q t.size with h | h
    · rw [← q7 q h, List.getElem?_take, if_pos h, List.getElem?_drop, List.getElem?_take, if_pos (by omega)]
      simp
    · rw [List.getElem?_eq_none (by rw [ICs.length q6]; exact h), List.getElem?_eq_none (by rw [List.length_take]; omega)]
  have hnew : (cur.toList.take (j * t.size + c) ++ vs ++ cur.toList.drop (j * t.size + c + vs.length)).take (xs.length * t.size) = (cur.toList.take (xs.length * t.size)).take (j * t.size) ++ (ds.take c ++ vs ++ ds.drop (c + vs.length)) ++ (cur.toList.take (xs.length * t.size)).drop (j * t.size + t.size) := by
    rw [splice_take _ _ _ _ (by omega) (by simp; omega)]
    exact splice_elem _ ds vs j c t.size hdl (by omega) (by rw [List.length_take]; simp; omega)
  have hlen : (xs.set j z).length = xs.length := List.length_set
  refine ⟨_, ⟨?_, .inr ⟨b, cap, _, by rw [hb, hlen, ql, qc], ?_, setRow_heap w b cur _ e (0, 0) q2, by rw [hlen]; exact q4, q5, ?_, by rw [hlen]⟩⟩, ?_⟩
  · simp only [hlen, List.length_take, List.length_append, List.length_drop, Array.length_toList]
    omega
  · obtain ⟨_, h2 | ⟨g', _, _, e1, e2, _⟩⟩ := hown
    · rw [hb] at h2; simp at h2
    · rw [hb] at e1
      injection e1 with e1
      injection e1 with e1
      injection e1 with e1
      rw [e1]
      exact e2
  · simp only [List.size_toArray, List.length_append, List.length_take, List.length_drop, Array.length_toList]
    omega
  · simp only [hnew]
    rw [← hvl] at k1
    exact (Els.set hz0 k1 q8 j hj).mono (fun _ _ q => ICs.tr ht q)
theorem Rel.hdrs (H : Rel ρ w0 U0 own fx hd0 st a w hd) : Hdrs st.ob hd := fun i e t xs hat => by
  have hi : i < st.ob.length := by
    rcases Nat.lt_or_ge i st.ob.length with q | q
    · exact q
    · rw [atn_out _ _ _ q] at hat; cases hat
  have hro := H.ob i hi
  rw [hat] at hro
  obtain ⟨cs, h1, _⟩ := hro
  exact (own_hdr h1).1
/-- A store into a cell of a struct variable. -/
theorem store_box (ok : TabOk P tab) (H : Rel ρ w0 U0 own fx hd0 st a w hd) {id : TypeId} {i : TI} (hf : tab.find id = some i) (hp : i.t.isPair = false) {m c : Nat} {e : TypeId} {l : List A} (hat : atn .gone st.ob m = .cells e l) (hc : c < l.length) {b : Nat} (hb : hd m = .pointer (some ⟨b, 0, none⟩))
    {x : A} {v : Value} (hx : RA ρ (Us U0 st.ob.length hd) w hd x v) (hone : v.oneCell' = true) (hxr : ∀ j ∈ x.refs, j < st.ob.length) :
    ∃ w', (Instr.storeAt id (.pointer (some ⟨b, c, none⟩)) v).run P w = .ok () w' ∧ Rel ρ w0 U0 own fx hd0 ⟨st.tm, setn (.cells e (setn x l c)) st.ob m⟩ a w' hd := by
  have hm : m < st.ob.length := by
    rcases Nat.lt_or_ge m st.ob.length with q | q
    · exact q
    · rw [atn_out _ _ _ q] at hat; cases hat
  have hro := H.ob m hm
  rw [hat] at hro
  obtain ⟨b', vs, q1, q2, q3, q4, q5⟩ := hro
  rw [hb] at q1
  injection q1 with q1
  injection q1 with q1
  injection q1 with q1
  subst q1
  have hr := storeVar_run ok hf (vs := [v]) (by rw [one_cells hone]) (by rw [T.size_one _ hp]; rfl) (by simpa using hone) q3 (o := c) (by simp; omega)
  refine ⟨_, hr, ?_⟩
  have hag := setRow_ag w b (vs.toArray.toList.take c ++ [v] ++ vs.toArray.toList.drop (c + 1)).toArray (v := hd m) (by rw [hb]; rfl)
  have ht : Tr (Us U0 st.ob.length hd) w (Us U0 st.ob.length hd) (w.setRow b (vs.toArray.toList.take c ++ [v] ++ vs.toArray.toList.drop (c + 1)).toArray) := Tr.of hag (fun b _ hb => .inr ⟨m, hm, hb⟩) (fun _ _ h => h)
  refine H.set hm hag (fun j hj => ?_) ⟨b, vs.set c v, hb, q2, ?_, by rw [List.length_set, length_setn]; exact q4, fun q hq => ?_⟩
  · obtain ⟨y, hy, hjy⟩ := List.mem_flatMap.1 hj
    have hmem : ∀ (l : List A) (c : Nat), y ∈ setn x l c → y = x ∨ y ∈ l := by
      intro l
      induction l with
      | nil => intro c h; simp [setn] at h
      | cons z l ih =>
        intro c h
        cases c with
        | zero => simp only [setn, List.mem_cons] at h; rcases h with h | h
                  · exact .inl h
                  · exact .inr (List.mem_cons_of_mem _ h)
        | succ c =>
          simp only [setn, List.mem_cons] at h
          rcases h with h | h
          · exact .inr (by rw [h]; simp)
          · rcases ih c h with h | h
            · exact .inl h
            · exact .inr (List.mem_cons_of_mem _ h)
    rcases hmem l c hy with rfl | h
    · exact hxr j hjy
    · exact H.wo m j (by rw [hat]; exact List.mem_flatMap.2 ⟨y, h, hjy⟩)
  · have := setRow_heap w b vs.toArray (vs.toArray.toList.take c ++ [v] ++ vs.toArray.toList.drop (c + 1)).toArray e (0, 0) q3
    rw [this]
    congr 3
    rw [List.set_eq_take_append_cons_drop, if_pos (by omega)]
    simp
  · rw [length_setn] at hq
    rw [atn_setn]
    by_cases e' : c = q
    · subst e'
      rw [if_pos ⟨rfl, hc⟩]
      exact ⟨v, by rw [List.getElem?_set_self (by omega)], hone, RA.tr ht (fun _ _ => rfl) hx⟩
    · rw [if_neg (fun h => e' h.1), List.getElem?_set_ne e']
      obtain ⟨y, h1, h2, h3⟩ := q5 q hq
      exact ⟨y, h1, h2, RA.tr ht (fun _ _ => rfl) h3⟩
theorem thaw_row {st : St} {x : A} {m : Nat} {e : TypeId} {t : T} {xs : List t.den} (hrf : ∀ j ∈ x.refs, j < st.ob.length) (hat : atn Ob.gone (x.thaw st).ob m = .row e t xs) : m ∉ x.rowOf := fun hmem => by
  have main : m < st.ob.length → x.thaw st = st.frz m → False := fun hlt hth => by
    rw [hth] at hat
    simp only [St.frz] at hat
    cases hq : atn Ob.gone st.ob m with
    | row e' t' xs' =>
      rw [hq] at hat
      simp only at hat
      rw [atn_setn, if_pos ⟨rfl, by rw [length_mapn]; exact hlt⟩] at hat
      cases hat
    | cells e' l' => rw [hq] at hat; simp only at hat; rw [hq] at hat; cases hat
    | gone => rw [hq] at hat; simp only at hat; rw [hq] at hat; cases hat
  cases x with
  | row i =>
    have : m = i := by simpa [A.rowOf] using hmem
    subst this
    exact main (hrf m (by simp [A.refs])) rfl
  | cut i n f =>
    have : m = i := by simpa [A.rowOf] using hmem
    subst this
    exact main (hrf m (by simp [A.refs])) rfl
  | _ => simp [A.rowOf] at hmem
theorem Rel.refs (H : Rel ρ w0 U0 own fx hd0 st a w hd) (y : Operand) : ∀ j ∈ (ev st y).refs, j < st.ob.length := fun j hj => by
  cases y with
  | tmp q => exact H.wt q j hj
  | const v =>
    simp only [ev] at hj
    unfold lit at hj
    split at hj <;> simp [A.refs] at hj
  | global g => simp [ev, A.refs] at hj
  | func g => simp [ev, A.refs] at hj
/-- Any store. -/
theorem store_sound {R : Type} {r : R} {k : St → Option R} (ok : TabOk P tab) (H : Rel ρ w0 U0 own fx hd0 st a w hd) {t : TypeId} {ad x : Operand} (h : storeZ own tab t (ev st ad) (ev st x) st k = some r) :
    ∃ st' w' hd', k st' = some r ∧ (Instr.storeAt t (a.eval ad) (a.eval x)).run P w = .ok () w' ∧ Rel ρ w0 U0 own fx hd0 st' a w' hd' := by
  have ha := H.ev_ ad
  have hx := H.ev_ x
  have hrf := H.refs
  unfold storeZ at h
  split at h
  · rename_i i m j c s u hf hadr
    rw [hadr] at ha
    split at h
    · rename_i hu
      obtain ⟨rfl, hth⟩ := hu
      split at h
      · rename_i y st1 hy
        obtain ⟨hd', H', hlen, hne, hus, hval⟩ := H.thaw hth (hrf x)
        split at h
        · rename_i e w1 xs hat
          split at h
          · rename_i hs
            subst hs
            split at h
            · rename_i z hz
              split at h
              · rename_i hj
                obtain ⟨b, l, cp, e1, e2, e3⟩ := ha
                have hmr : m ∉ (ev st x).rowOf := thaw_row (hrf x) hat
                have hb : hd' m = .slice (some ⟨b, 0, none⟩) l cp := by rw [hne m hmr]; exact e1
                have hv := hval hy hx
                rw [← hlen] at hv
                obtain ⟨w', r1, r2⟩ := store_row ok H' hf hat hj hz hb hv
                rw [e3]
                exact ⟨_, w', hd', h, r1, r2⟩
              · cases h
            · cases h
          · cases h
        · cases h
      · cases h
    · cases h
  · rename_i i m c hf hadr
    rw [hadr] at ha
    split at h
    · rename_i e l hat
      split at h
      · rename_i hcond
        obtain ⟨hp, hc, hone⟩ := hcond
        obtain ⟨b, e1, e2⟩ := ha
        have h1 := oneB_cell hone hx (fun q hq => by
          rw [hq] at hx
          have hlt : q < st.ob.length := hrf x q (by rw [hq]; simp [A.refs])
          have hro := H.ob q hlt
          rw [show a.eval x = hd q from hx]
          cases hq2 : atn Ob.gone st.ob q with
          | row e2 t2 xs2 =>
            rw [hq2] at hro
            obtain ⟨cs, h1, _⟩ := hro
            obtain ⟨a1, c1, e3, _⟩ := (own_hdr h1).1.form
            rw [e3]; rfl
          | cells e2 l2 =>
            rw [hq2] at hro
            obtain ⟨b1, vs1, e3, _⟩ := hro
            rw [e3]; rfl
          | gone =>
            rw [hq2] at hro
            rw [show hd q = nilV from hro]; rfl)
        obtain ⟨w', r1, r2⟩ := store_box ok H hf hp hat hc e1 hx h1 (hrf x)
        rw [e2]
        exact ⟨_, w', hd, h, r1, r2⟩
      · cases h
    · cases h
  · cases h
/-- What leads on to nothing hangs on no memory. -/
theorem ics_flat {U U' : Nat → Prop} {w w' : World} : ∀ {t : T} {cs : List Value} {x : t.den}, t.led = false → ICs ρ U w t cs x → ICs ρ U' w' t cs x
  | .int _, _, _, _, h => h
  | .bool, _, _, _, h => h
  | .flt, _, _, _, h => h
  | .list _, _, _, h, _ => by simp [T.led] at h
  | .pair a b, _, _, hl, ⟨c, d, h, h1, h2⟩ => by
    simp only [T.led, Bool.or_eq_false_iff] at hl
    exact ⟨c, d, h, ics_flat hl.1 h1, ics_flat hl.2 h2⟩
  | .obj _, _, _, h, _ => by simp [T.led] at h
  | .ptr _, _, _, h, _ => by simp [T.led] at h
  | .one t, cs, x, hl, h => ics_flat (t := t) (cs := cs) (x := x) hl h
/-- What is appended: its cells. -/
def Src (ρ : Obs) (U : Nat → Prop) (w : World) (t : T) (v : Value) (ys : List t.den) : Prop := ∃ A c cs, v = .slice A ys.length c ∧ Els (ICs ρ U w t) cs ys ∧ (0 < ys.length → ∃ b off, A = some ⟨b, off, none⟩ ∧ ∀ j, j < cs.length → w.cell? ⟨b, off + j, none⟩ = cs[j]?)
theorem src_led {t : T} {v : Value} {ys : List t.den} (h : IRd ρ U w (.list t) v ys) : Src ρ U w t v ys := by
  obtain ⟨_, rfl, A, c, ds, rfl, _, _, h3, h4⟩ := h
  refine ⟨A, c, ds, rfl, h3, fun hp => ?_⟩
  obtain ⟨b, off, e, h5⟩ := h4 hp
  exact ⟨b, off, e, h5 w (Ag.refl _ _)⟩
theorem src_flat (H : Rel ρ w0 U0 own fx hd0 st a w hd) {t : T} (ht : t.led = false) {x : A} {v : Value} {ys : List t.den} (h : A.toV st.ob (.list t) x = some ys) (hx : RA ρ (Us U0 st.ob.length hd) w hd x v) : Src ρ (Us U0 st.ob.length hd) w t v ys := by
  have h1 := toV_ird H h hx (U' := fun b => Us U0 st.ob.length hd b ∧ ∀ i ∈ x.rowOf, blk (hd i) ≠ some b) (fun b _ hb => hb.1) (fun i hi b hb hn => hn.2 i hi hb)
  obtain ⟨A, c, cs, e, h2, h3⟩ := src_led h1
  exact ⟨A, c, cs, e, h2.mono (fun _ _ q => ics_flat ht q), h3⟩
theorem append_nothing {t e : TypeId} (ok : TabOk P tab) {i : TI} (h : elemZ tab t = some (e, i)) {v : Value} {n : Nat} (hv : Hdr v n) (c : Nat) (ty : TypeId) (w : World) : (Builtin.append_ #[t, t] ty #[v, .slice none 0 c]).run P w = .ok v w := by
  obtain ⟨h1, h2⟩ := elem_ok ok h
  have h3 := sizeOf_run ok h2 w
  obtain ⟨a, cap, rfl, hle⟩ := hv.form
  unfold Builtin.append_
  simp [run_underlying h1, go_sem]
  rw [h3]
  simp [Builtin.lenOf, Builtin.firstCells, hle, go_sem]
  cases a <;> simp [storeCells, go_sem]
theorem append_run {t e : TypeId} (ok : TabOk P tab) {i : TI} (h : elemZ tab t = some (e, i)) (base : Nat) {v : Value} {n : Nat} {cs0 : List Value} (ho : w.ownsRow base e i.t.size v n cs0) (hbase : base ≤ w.heap.size) {u : Value} {ys : List i.t.den} (hu : Src ρ U w i.t u ys)
    (hb : (n + ys.length) * i.bytes ≤ 140737488355328) (ty : TypeId) : ∃ cs v' w', Els (ICs ρ U w i.t) cs ys ∧ (Builtin.append_ #[t, t] ty #[v, u]).run P w = .ok v' w' ∧ w'.ownsRow base e i.t.size v' (n + ys.length) (cs0 ++ cs) ∧ w.grownBy w' v.ownBlock ∧ (v'.ownBlock = v.ownBlock ∨ v'.ownBlock = some w.heap.size) := by
  obtain ⟨h1, h2⟩ := elem_ok ok h
  obtain ⟨inf, i1, i2, i3, i4, i5⟩ := ok.info _ _ h2
  obtain ⟨A, c, cs, rfl, hels, hcell⟩ := hu
  have hz : ∀ c x, ICs ρ U w i.t c x → c.length = i.t.size := fun c x q => ICs.length q
  have hlen := Els.length hz hels
  have hone : ∀ u ∈ cs, u.oneCell' = true := by
    clear hcell hlen hb
    induction ys generalizing cs with
    | nil => cases hels; simp
    | cons y ys ih =>
      obtain ⟨c1, r1, rfl, q1, q2⟩ := hels
      intro u hu
      rw [List.mem_append] at hu
      rcases hu with hu | hu
      · exact ICs.ones q1 u hu
      · exact ih _ q2 u hu
  have hpc : (pack i.t (zeroC i.t)).cells.size = i.t.size := by
    rw [pack_cs (zero_ics (ρ := fun _ _ _ _ => True) (U := fun _ => True) (w := w) i.t)]
    simp [zero_len]
  have hml : n + ys.length ≤ 140737488355328 := Nat.le_trans (Nat.le_mul_of_pos_right _ i4) hb
  cases A with
  | none =>
    have h0 : ys.length = 0 := by
      rcases Nat.eq_zero_or_pos ys.length with h | h
      · exact h
      · obtain ⟨_, _, e, _⟩ := hcell h; cases e
    have hcs : cs = [] := List.eq_nil_of_length_eq_zero (by rw [hlen, h0]; simp)
    subst hcs
    refine ⟨[], v, w, hels, ?_, by rw [h0]; simpa using ho, ⟨rfl, rfl, rfl, Nat.le_refl _, fun _ _ _ => rfl⟩, .inl rfl⟩
    rw [h0]
    exact append_nothing ok h (own_hdr ho).1 c ty w
  | some ad =>
    have hnews : ∀ j u, cs[j]? = some u → w.cell? (ad.add j) = some u := fun j u hj => by
      have hj' : j < cs.length := (List.getElem?_eq_some_iff.1 hj).1
      have hp : 0 < ys.length := by
        rcases Nat.eq_zero_or_pos ys.length with h | h
        · rw [hlen, h] at hj'; simp at hj'
        · exact h
      obtain ⟨b, off, e, q⟩ := hcell hp
      injection e with e
      subst e
      have := q j hj'
      rw [hj] at this
      rw [← this]
      congr 1
      unfold Addr.add
      split
      · rename_i e; subst e; rfl
      · rfl
    obtain ⟨v', w', r1, r2, r3, _, r4⟩ := run_append_own_at (P := P) w base t ty e inf _ i.t.size i.bytes h1 i1 i5 i2 i3 hpc (T.size_pos _) v n cs0 ho ad ys.length c cs hlen hnews hone (by unfold maxLen; omega) hb hbase
    exact ⟨cs, v', w', hels, r1, r2, r3, r4⟩
theorem row_lt {st : St} {m : Nat} {e : TypeId} {t : T} {xs : List t.den} (hat : atn Ob.gone st.ob m = .row e t xs) : m < st.ob.length := by
  rcases Nat.lt_or_ge m st.ob.length with q | q
  · exact q
  · rw [atn_out _ _ _ q] at hat; cases hat
theorem blk_own {v : Value} {n : Nat} (h : Hdr v n) : blk v = v.ownBlock := by
  rcases h with ⟨rfl, _⟩ | ⟨g, c, rfl, _⟩ <;> rfl
/-- An append, its second operand being known. -/
theorem append_core {R : Type} {r : R} {k : St → Option R} (ok : TabOk P tab) (H : Rel ρ w0 U0 own fx hd0 st a w hd) {t e : TypeId} {i : TI} (hel : elemZ tab t = some (e, i)) {x : A} {vx vy : Value} {ys : List i.t.den} {d : Option Tmp} (h : appC own e i ys d st k x = some r)
    (hx : ∀ m e' u xs, x = .row m → atn Ob.gone st.ob m = .row e' u xs → vx = hd m) (hnl : x = .nls → vx = .slice none 0 0) (hy : Src ρ (Us U0 st.ob.length hd) w i.t vy ys) (ty : TypeId) :
    ∃ st' v' w' hd', k st' = some r ∧ (Builtin.append_ #[t, t] ty #[vx, vy]).run P w = .ok v' w' ∧ Rel ρ w0 U0 own fx hd0 st' (a.put d v') w' hd' := by
  unfold appC at h
  split at h
  · split at h
    · rename_i hb
      rw [hnl rfl]
      obtain ⟨cs, v', w', h1, h2, h3, h4, h5⟩ := append_run ok hel w.heap.size (World.ownsRow_nil w w.heap.size e i.t.size) (Nat.le_refl _) hy (by rw [Nat.zero_add]; exact hb) ty
      rw [Nat.zero_add, List.nil_append] at h3
      have hag : Ag (fun _ => False) w w' := Ag.of_grown h4 (fun b hb => by simp [Value.ownBlock] at hb)
      exact ⟨_, v', w', _, h, h2, H.newRow hag h3 h1 d⟩
    · cases h
  · rename_i m
    split at h
    · rename_i e' u xs hat
      split at h
      · rename_i hh
        obtain ⟨rfl, rfl, ho⟩ := hh
        split at h
        · rename_i hb
          have hm := row_lt hat
          have hro := H.ob m hm
          rw [hat, if_neg (by omega)] at hro
          obtain ⟨cs0, q1, q2⟩ := hro
          rw [hx m _ _ _ rfl hat]
          obtain ⟨cs, v', w', h1, h2, h3, h4, h5⟩ := append_run ok hel w0.heap.size q1 H.ag.size hy hb ty
          have hbl : blk (hd m) = (hd m).ownBlock := blk_own (own_hdr q1).1
          have hbl' : blk v' = v'.ownBlock := blk_own (own_hdr h3).1
          have hag : Ag (fun b => blk (hd m) = some b) w w' := Ag.of_grown h4 (fun b hb => by rw [hbl]; exact hb)
          have hbb : ∀ b, blk v' = some b → blk (hd m) = some b ∨ w.heap.size ≤ b := fun b hb => by
            rw [hbl'] at hb
            rcases h5 with h5 | h5
            · left; rw [hbl, ← h5]; exact hb
            · right; rw [h5] at hb; injection hb with hb; omega
          have hU := us_same (U0 := U0) (n := st.ob.length) hbb
          have ht : Tr (Us U0 st.ob.length hd) w (Us U0 st.ob.length (upd hd m v')) w' := Tr.of hag (fun b _ hb => .inr ⟨m, hm, hb⟩) hU
          have H2 := H.turn hm hag (o := .gone) (o' := .row e' i.t (xs ++ ys)) (v' := v') (upd hd m v') (fun j hj => upd_ne hj) (upd_same _ _ _) (fun hlt _ => by omega) hbb (by simp [Ob.refs]) (fun e t xs heq => by cases heq)
            ⟨cs0 ++ cs, by rw [if_neg (by omega), List.length_append]; exact h3, (q2.append h1).mono (fun _ _ q => ICs.tr ht q)⟩
          have H3 := H2.put (x := .row m) (v := v') (by simp [RA, upd_same]) (by simp [A.refs, length_setn, length_mapn, hm]) d
          exact ⟨_, v', w', _, h, h2, H3⟩
        · cases h
      · cases h
    · cases h
  · cases h
theorem append_sound {R : Type} {r : R} {k : St → Option R} (ok : TabOk P tab) (H : Rel ρ w0 U0 own fx hd0 st a w hd) {t : TypeId} {x y : Operand} {d : Option Tmp} (h : appendZ own tab t (ev st x) (ev st y) d st k = some r) (ty : TypeId) :
    ∃ st' v' w' hd', k st' = some r ∧ (Builtin.append_ #[t, t] ty #[a.eval x, a.eval y]).run P w = .ok v' w' ∧ Rel ρ w0 U0 own fx hd0 st' (a.put d v') w' hd' := by
  have hex := H.ev_ x
  have hey := H.ev_ y
  unfold appendZ at h
  split at h
  · rename_i e i hel
    split at h
    · rename_i ys hv
      split at h
      · rename_i hled
        split at h
        · rename_i hth
          obtain ⟨hd', H', hlen, hne, hus, hval⟩ := H.thaw hth (H.refs y)
          have hir := hval hv hey
          rw [← hlen] at hir
          exact append_core ok H' hel h (fun m e' u xs hm hat => by rw [hne m (thaw_row (H.refs y) hat)]; rw [hm] at hex; exact hex) (fun hm => by rw [hm] at hex; exact hex) (src_led hir) ty
        · cases h
      · rename_i hled
        exact append_core ok H hel h (fun m _ _ _ hm _ => by rw [hm] at hex; exact hex) (fun hm => by rw [hm] at hex; exact hex) (src_flat H (by simpa using hled) hv hey) ty
    · cases h
  · cases h
end
end Go.Proofs.Ythbojpaghbbnnaa.Z
