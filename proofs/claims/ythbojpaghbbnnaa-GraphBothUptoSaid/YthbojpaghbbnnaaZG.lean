/- The small machine's stores and appends. Plain lemmas; no condition. -/
import Derived.Test.YthbojpaghbbnnaaZF
namespace Go.Proofs.Ythbojpaghbbnnaa.Z
open Go Go.RowKit
set_option linter.unusedVariables false
set_option linter.unusedSimpArgs false
section
variable {P : Program} {tab : Tab} {ρ : Obs} {U : Nat → Prop} {w : World} {hd : Nat → Value} {w0 : World} {U0 : Nat → Prop} {own : Nat} {hd0 : Nat → Value} {st : St} {a : Act}
theorem splice_take {α : Type} (cur vs : List α) (o N : Nat) (h : o + vs.length ≤ N) (hN : N ≤ cur.length) : (cur.take o ++ vs ++ cur.drop (o + vs.length)).take N = (cur.take N).take o ++ vs ++ (cur.take N).drop (o + vs.length) := by
  rw [List.take_append, List.take_of_length_le (by simp; omega), List.take_take, Nat.min_eq_left (by omega)]
  congr 1
  rw [List.drop_take]
  congr 1
  simp
  omega
theorem splice_elem {α : Type} (cs ds vs : List α) (j c sz : Nat) (hd : ds = (cs.drop (j * sz)).take sz) (hc : c + vs.length ≤ sz) (hl : j * sz + sz ≤ cs.length) :
    cs.take (j * sz + c) ++ vs ++ cs.drop (j * sz + c + vs.length) = cs.take (j * sz) ++ (ds.take c ++ vs ++ ds.drop (c + vs.length)) ++ cs.drop (j * sz + sz) := by
  subst hd
  rw [List.take_add, List.take_take, Nat.min_eq_left (by omega), List.drop_take, List.drop_drop]
  have h1 : cs.drop (j * sz + c + vs.length) = (cs.drop (j * sz + (c + vs.length))).take (sz - (c + vs.length)) ++ cs.drop (j * sz + sz) := by
    rw [← Nat.add_assoc]
    conv => lhs; rw [← List.take_append_drop (sz - (c + vs.length)) (cs.drop (j * sz + c + vs.length))]
    rw [List.drop_drop]
    congr 2
    omega
  rw [h1]
  simp only [List.append_assoc]
theorem setRow_ag (w : World) (g : Nat) (cs : Array Value) {v : Value} (hv : blk v = some g) : Ag (fun b => blk v = some b) w (w.setRow g cs) :=
  ⟨rfl, rfl, rfl, by simp, fun b hb hn => setRow_other w g b cs (fun e => hn (by rw [hv, e]))⟩
theorem storeVar_run (ok : TabOk P tab) {id : TypeId} {i : TI} (h : tab.find id = some i) {v : Value} {vs : List Value} (hv : v.cells = vs.toArray) (hl : vs.length = i.t.size) (h1 : ∀ v ∈ vs, v.oneCell' = true) {g o : Nat} {t : TypeId} {cur : Array Value} (hg : w.heap[g]? = some (.cells cur t (0, 0))) (ho : o + vs.length ≤ cur.size) :
    (Instr.storeAt id (.pointer (some ⟨g, o, none⟩)) v).run P w = .ok () (w.setRow g (cur.toList.take o ++ vs ++ cur.toList.drop (o + vs.length)).toArray) := by
  have h2 := sizeOf_run ok h w
  unfold Instr.storeAt storeVar
  simp only [Instr.sureAddr]
  rw [Sem.run_bind]
  simp only [Sem.run_pure, Result.andThen_ok]
  rw [Sem.run_bind, h2, Result.andThen_ok, hv]
  have h3 : ¬ (vs.toArray.size ≠ i.t.size) := by simp [hl]
  rw [if_neg h3]
  have := run_storeCells_at (P := P) g o t vs 0 cur w hg (by omega) h1
  simpa using this
/-- A store into an element of an own row. -/
theorem store_row (ok : TabOk P tab) (H : Rel ρ w0 U0 own hd0 st a w hd) {id : TypeId} {i : TI} (hf : tab.find id = some i) {m j c : Nat} {e : TypeId} {t : T} {xs : List t.den} {z : t.den} {y : i.t.den} (hat : atn .gone st.ob m = .row e t xs) (hj : j < xs.length)
    (hz : T.upd i.t y t c (xs.getD j t.dflt) = some z) {b : Nat} {l cp : Nat} (hb : hd m = .slice (some ⟨b, 0, none⟩) l cp) {v : Value} (hv : IRd ρ (Us U0 st.ob.length hd) w i.t v y) :
    ∃ w', (Instr.storeAt id (.pointer (some ⟨b, j * t.size + c, none⟩)) v).run P w = .ok () w' ∧ Rel ρ w0 U0 own hd0 ⟨st.tm, setn (.row e t (xs.set j z)) st.ob m⟩ a w' hd := by
  have hm : m < st.ob.length := by
    rcases Nat.lt_or_ge m st.ob.length with q | q
    · exact q
    · rw [atn_out _ _ _ q] at hat; cases hat
  have hro := H.ob m hm
  rw [hat] at hro
  have hro2 := hro
  obtain ⟨cs0, hown, hels⟩ := hro2
  obtain ⟨g, cap, cur, ds, q1, q2, q3, q4, q5, q6, q7, q8⟩ := elem_cells hro hj
  rw [hb] at q1
  injection q1 with q1 ql qc
  injection q1 with q1
  injection q1 with q1
  subst q1
  obtain ⟨vs, rfl, hvs⟩ := hv
  have hvl := ICs.length hvs
  have hz0 : ∀ c x, ICs ρ (Us U0 st.ob.length hd) w t c x → c.length = t.size := fun c x q => ICs.length q
  have hle : j * t.size + t.size ≤ xs.length * t.size := by rw [← Nat.succ_mul]; exact Nat.mul_le_mul_right _ hj
  have hcap : xs.length * t.size ≤ cap * t.size := Nat.mul_le_mul_right _ q4
  obtain ⟨k1, k2⟩ := ICs.upd i.t hvs q6 hz
  have hr := storeVar_run ok hf (pack_cs hvs) hvl (ICs.ones hvs) q2 (o := j * t.size + c) (by omega)
  refine ⟨_, hr, ?_⟩
  have hag := setRow_ag w b (cur.toList.take (j * t.size + c) ++ vs ++ cur.toList.drop (j * t.size + c + vs.length)).toArray (v := hd m) (by rw [hb]; rfl)
  refine H.set hm hag (by simp [Ob.refs]) ?_
  have ht : Tr (Us U0 st.ob.length hd) w (Us U0 st.ob.length hd) (w.setRow b (cur.toList.take (j * t.size + c) ++ vs ++ cur.toList.drop (j * t.size + c + vs.length)).toArray) := Tr.of hag (fun b _ hb => .inr ⟨m, hm, hb⟩) (fun _ _ h => h)
  have hdl : ds = ((cur.toList.take (xs.length * t.size)).drop (j * t.size)).take t.size := by
    apply List.ext_getElem?
    intro q
    rcases Nat.lt_or_ge q t.size with h | h
    · rw [← q7 q h, List.getElem?_take, if_pos h, List.getElem?_drop, List.getElem?_take, if_pos (by omega)]
      simp
    · rw [List.getElem?_eq_none (by rw [ICs.length q6]; exact h), List.getElem?_eq_none (by rw [List.length_take]; omega)]
  have hnew : (cur.toList.take (j * t.size + c) ++ vs ++ cur.toList.drop (j * t.size + c + vs.length)).take (xs.length * t.size) = (cur.toList.take (xs.length * t.size)).take (j * t.size) ++ (ds.take c ++ vs ++ ds.drop (c + vs.length)) ++ (cur.toList.take (xs.length * t.size)).drop (j * t.size + t.size) := by
    rw [splice_take _ _ _ _ (by omega) (by simp; omega)]
    exact splice_elem _ ds vs j c t.size hdl (by omega) (by rw [List.length_take]; simp; omega)
  have hlen : (xs.set j z).length = xs.length := List.length_set
  refine ⟨_, ⟨?_, .inr ⟨b, cap, _, by rw [hb, hlen, ql, qc], ?_, setRow_heap w b cur _ e (0, 0) q2, by rw [hlen]; exact q4, q5, ?_, by rw [hlen]⟩⟩, ?_⟩
  · simp only [hlen, List.length_take, List.length_append, List.length_drop, Array.length_toList]
    omega
  · obtain ⟨_, h2 | ⟨g', _, _, e1, e2, _⟩⟩ := hown
    · rw [hb] at h2; simp at h2
    · rw [hb] at e1
      injection e1 with e1
      injection e1 with e1
      injection e1 with e1
      rw [e1]
      exact e2
  · simp only [List.size_toArray, List.length_append, List.length_take, List.length_drop, Array.length_toList]
    omega
  · simp only [hnew]
    rw [← hvl] at k1
    exact (Els.set hz0 k1 q8 j hj).mono (fun _ _ q => ICs.tr ht q)
theorem one_cells : ∀ {v : Value}, v.oneCell' = true → v.cells = #[v]
  | .bool _, _ => rfl
  | .int _ _, _ => rfl
  | .float _ _, _ => rfl
  | .complex _ _ _, _ => rfl
  | .string _, _ => rfl
  | .pointer _, _ => rfl
  | .slice _ _ _, _ => rfl
  | .map _, _ => rfl
  | .chan _, _ => rfl
  | .func _ _ _, _ => rfl
  | .nilFunc, _ => rfl
  | .iface _ _, _ => rfl
  | .nilIface, _ => rfl
  | .agg _, h => by simp [Value.oneCell'] at h
  | .tuple _, _ => rfl
theorem oneB_cell {x : A} {v : Value} (h : x.oneB = true) (hx : RA ρ U w hd x v) (hh : ∀ i, x = .row i → v.oneCell' = true) : v.oneCell' = true := by
  cases x with
  | v t y =>
    cases hp : t.isPair with
    | true => obtain ⟨a, b, rfl⟩ := isPair_ex hp; simp [A.oneB] at h
    | false =>
      obtain ⟨cs, rfl, hc⟩ := hx
      obtain ⟨u, rfl, _, h3⟩ := ICs.one hp hc
      rw [pack_one hp]
      exact h3
  | nls => rw [show v = _ from hx]; rfl
  | nlp => rw [show v = _ from hx]; rfl
  | row i =>
    exact hh i rfl
  | cut i n f => obtain ⟨_, _, _, _, _, _, e, _⟩ := hx; rw [e]; rfl
  | adr i j k s t => obtain ⟨_, _, _, _, _, e⟩ := hx; rw [e]; rfl
  | ref t y => obtain ⟨_, _, _, e, _⟩ := hx; rw [e]; rfl
  | box i k => obtain ⟨_, _, e⟩ := hx; rw [e]; rfl
  | _ => simp [A.oneB] at h
theorem Rel.hdrs (H : Rel ρ w0 U0 own hd0 st a w hd) : Hdrs st.ob hd := fun i e t xs hat => by
  have hi : i < st.ob.length := by
    rcases Nat.lt_or_ge i st.ob.length with q | q
    · exact q
    · rw [atn_out _ _ _ q] at hat; cases hat
  have hro := H.ob i hi
  rw [hat] at hro
  obtain ⟨cs, h1, _⟩ := hro
  exact (own_hdr h1).1
/-- A store into a cell of a struct variable. -/
theorem store_box (ok : TabOk P tab) (H : Rel ρ w0 U0 own hd0 st a w hd) {id : TypeId} {i : TI} (hf : tab.find id = some i) (hp : i.t.isPair = false) {m c : Nat} {e : TypeId} {l : List A} (hat : atn .gone st.ob m = .cells e l) (hc : c < l.length) {b : Nat} (hb : hd m = .pointer (some ⟨b, 0, none⟩))
    {x : A} {v : Value} (hx : RA ρ (Us U0 st.ob.length hd) w hd x v) (hone : v.oneCell' = true) (hxr : ∀ j ∈ x.refs, j < st.ob.length) :
    ∃ w', (Instr.storeAt id (.pointer (some ⟨b, c, none⟩)) v).run P w = .ok () w' ∧ Rel ρ w0 U0 own hd0 ⟨st.tm, setn (.cells e (setn x l c)) st.ob m⟩ a w' hd := by
  have hm : m < st.ob.length := by
    rcases Nat.lt_or_ge m st.ob.length with q | q
    · exact q
    · rw [atn_out _ _ _ q] at hat; cases hat
  have hro := H.ob m hm
  rw [hat] at hro
  obtain ⟨b', vs, q1, q2, q3, q4, q5⟩ := hro
  rw [hb] at q1
  injection q1 with q1
  injection q1 with q1
  injection q1 with q1
  subst q1
  have hr := storeVar_run ok hf (vs := [v]) (by rw [one_cells hone]) (by rw [T.size_one _ hp]; rfl) (by simpa using hone) q3 (o := c) (by simp; omega)
  refine ⟨_, hr, ?_⟩
  have hag := setRow_ag w b (vs.toArray.toList.take c ++ [v] ++ vs.toArray.toList.drop (c + 1)).toArray (v := hd m) (by rw [hb]; rfl)
  have ht : Tr (Us U0 st.ob.length hd) w (Us U0 st.ob.length hd) (w.setRow b (vs.toArray.toList.take c ++ [v] ++ vs.toArray.toList.drop (c + 1)).toArray) := Tr.of hag (fun b _ hb => .inr ⟨m, hm, hb⟩) (fun _ _ h => h)
  refine H.set hm hag (fun j hj => ?_) ⟨b, vs.set c v, hb, q2, ?_, by rw [List.length_set, length_setn]; exact q4, fun q hq => ?_⟩
  · obtain ⟨y, hy, hjy⟩ := List.mem_flatMap.1 hj
    have hmem : ∀ (l : List A) (c : Nat), y ∈ setn x l c → y = x ∨ y ∈ l := by
      intro l
      induction l with
      | nil => intro c h; simp [setn] at h
      | cons z l ih =>
        intro c h
        cases c with
        | zero => simp only [setn, List.mem_cons] at h; rcases h with h | h
                  · exact .inl h
                  · exact .inr (List.mem_cons_of_mem _ h)
        | succ c =>
          simp only [setn, List.mem_cons] at h
          rcases h with h | h
          · exact .inr (by rw [h]; simp)
          · rcases ih c h with h | h
            · exact .inl h
            · exact .inr (List.mem_cons_of_mem _ h)
    rcases hmem l c hy with rfl | h
    · exact hxr j hjy
    · exact H.wo m j (by rw [hat]; exact List.mem_flatMap.2 ⟨y, h, hjy⟩)
  · have := setRow_heap w b vs.toArray (vs.toArray.toList.take c ++ [v] ++ vs.toArray.toList.drop (c + 1)).toArray e (0, 0) q3
    rw [this]
    congr 3
    rw [List.set_eq_take_append_cons_drop, if_pos (by omega)]
    simp
  · rw [length_setn] at hq
    rw [atn_setn]
    by_cases e' : c = q
    · subst e'
      rw [if_pos ⟨rfl, hc⟩]
      exact ⟨v, by rw [List.getElem?_set_self (by omega)], hone, RA.tr ht (fun _ _ => rfl) hx⟩
    · rw [if_neg (fun h => e' h.1), List.getElem?_set_ne e']
      obtain ⟨y, h1, h2, h3⟩ := q5 q hq
      exact ⟨y, h1, h2, RA.tr ht (fun _ _ => rfl) h3⟩
theorem thaw_row {st : St} {x : A} {m : Nat} {e : TypeId} {t : T} {xs : List t.den} (hrf : ∀ j ∈ x.refs, j < st.ob.length) (hat : atn Ob.gone (x.thaw st).ob m = .row e t xs) : m ∉ x.rowOf := fun hmem => by
  have main : m < st.ob.length → x.thaw st = st.frz m → False := fun hlt hth => by
    rw [hth] at hat
    simp only [St.frz] at hat
    cases hq : atn Ob.gone st.ob m with
    | row e' t' xs' =>
      rw [hq] at hat
      simp only at hat
      rw [atn_setn, if_pos ⟨rfl, by rw [length_mapn]; exact hlt⟩] at hat
      cases hat
    | cells e' l' => rw [hq] at hat; simp only at hat; rw [hq] at hat; cases hat
    | gone => rw [hq] at hat; simp only at hat; rw [hq] at hat; cases hat
  cases x with
  | row i =>
    have : m = i := by simpa [A.rowOf] using hmem
    subst this
    exact main (hrf m (by simp [A.refs])) rfl
  | cut i n f =>
    have : m = i := by simpa [A.rowOf] using hmem
    subst this
    exact main (hrf m (by simp [A.refs])) rfl
  | _ => simp [A.rowOf] at hmem
theorem Rel.refs (H : Rel ρ w0 U0 own hd0 st a w hd) (y : Operand) : ∀ j ∈ (ev st y).refs, j < st.ob.length := fun j hj => by
  cases y with
  | tmp q => exact H.wt q j hj
  | const v =>
    simp only [ev] at hj
    unfold lit at hj
    split at hj <;> simp [A.refs] at hj
  | global g => simp [ev, A.refs] at hj
  | func g => simp [ev, A.refs] at hj
/-- Any store. -/
theorem store_sound {R : Type} {r : R} {k : St → Option R} (ok : TabOk P tab) (H : Rel ρ w0 U0 own hd0 st a w hd) {t : TypeId} {ad x : Operand} (h : storeZ own tab t (ev st ad) (ev st x) st k = some r) :
    ∃ st' w' hd', k st' = some r ∧ (Instr.storeAt t (a.eval ad) (a.eval x)).run P w = .ok () w' ∧ Rel ρ w0 U0 own hd0 st' a w' hd' := by
  have ha := H.ev_ ad
  have hx := H.ev_ x
  have hrf := H.refs
  unfold storeZ at h
  split at h
  · rename_i i m j c s u hf hadr
    rw [hadr] at ha
    split at h
    · rename_i hu
      obtain ⟨rfl, hth⟩ := hu
      split at h
      · rename_i y st1 hy
        obtain ⟨hd', H', hlen, hne, hus, hval⟩ := H.thaw hth (hrf x)
        split at h
        · rename_i e w1 xs hat
          split at h
          · rename_i hs
            subst hs
            split at h
            · rename_i z hz
              split at h
              · rename_i hj
                obtain ⟨b, l, cp, e1, e2, e3⟩ := ha
                have hmr : m ∉ (ev st x).rowOf := thaw_row (hrf x) hat
                have hb : hd' m = .slice (some ⟨b, 0, none⟩) l cp := by rw [hne m hmr]; exact e1
                have hv := hval hy hx
                rw [← hlen] at hv
                obtain ⟨w', r1, r2⟩ := store_row ok H' hf hat hj hz hb hv
                rw [e3]
                exact ⟨_, w', hd', h, r1, r2⟩
              · cases h
            · cases h
          · cases h
        · cases h
      · cases h
    · cases h
  · rename_i i m c hf hadr
    rw [hadr] at ha
    split at h
    · rename_i e l hat
      split at h
      · rename_i hcond
        obtain ⟨hp, hc, hone⟩ := hcond
        obtain ⟨b, e1, e2⟩ := ha
        have h1 := oneB_cell hone hx (fun q hq => by
          rw [hq] at hx
          have hlt : q < st.ob.length := hrf x q (by rw [hq]; simp [A.refs])
          have hro := H.ob q hlt
          rw [show a.eval x = hd q from hx]
          cases hq2 : atn Ob.gone st.ob q with
          | row e2 t2 xs2 =>
            rw [hq2] at hro
            obtain ⟨cs, h1, _⟩ := hro
            obtain ⟨a1, c1, e3, _⟩ := (own_hdr h1).1.form
            rw [e3]; rfl
          | cells e2 l2 =>
            rw [hq2] at hro
            obtain ⟨b1, vs1, e3, _⟩ := hro
            rw [e3]; rfl
          | gone =>
            rw [hq2] at hro
            rw [show hd q = nilV from hro]; rfl)
        obtain ⟨w', r1, r2⟩ := store_box ok H hf hp hat hc e1 hx h1 (hrf x)
        rw [e2]
        exact ⟨_, w', hd, h, r1, r2⟩
      · cases h
    · cases h
  · cases h
/-- What leads on to nothing hangs on no memory. -/
theorem ics_flat {U U' : Nat → Prop} {w w' : World} : ∀ {t : T} {cs : List Value} {x : t.den}, t.led = false → ICs ρ U w t cs x → ICs ρ U' w' t cs x
  | .int _, _, _, _, h => h
  | .bool, _, _, _, h => h
  | .flt, _, _, _, h => h
  | .list _, _, _, h, _ => by simp [T.led] at h
  | .pair a b, _, _, hl, ⟨c, d, h, h1, h2⟩ => by
    simp only [T.led, Bool.or_eq_false_iff] at hl
    exact ⟨c, d, h, ics_flat hl.1 h1, ics_flat hl.2 h2⟩
  | .obj _, _, _, h, _ => by simp [T.led] at h
/-- What is appended: its cells. -/
def Src (ρ : Obs) (U : Nat → Prop) (w : World) (t : T) (v : Value) (ys : List t.den) : Prop := ∃ A c cs, v = .slice A ys.length c ∧ Els (ICs ρ U w t) cs ys ∧ (0 < ys.length → ∃ b off, A = some ⟨b, off, none⟩ ∧ ∀ j, j < cs.length → w.cell? ⟨b, off + j, none⟩ = cs[j]?)
theorem src_led {t : T} {v : Value} {ys : List t.den} (h : IRd ρ U w (.list t) v ys) : Src ρ U w t v ys := by
  obtain ⟨_, rfl, A, c, ds, rfl, _, _, h3, h4⟩ := h
  refine ⟨A, c, ds, rfl, h3, fun hp => ?_⟩
  obtain ⟨b, off, e, h5⟩ := h4 hp
  exact ⟨b, off, e, h5 w (Ag.refl _ _)⟩
theorem src_flat (H : Rel ρ w0 U0 own hd0 st a w hd) {t : T} (ht : t.led = false) {x : A} {v : Value} {ys : List t.den} (h : A.toV st.ob (.list t) x = some ys) (hx : RA ρ (Us U0 st.ob.length hd) w hd x v) : Src ρ (Us U0 st.ob.length hd) w t v ys := by
  have h1 := toV_ird H h hx (U' := fun b => Us U0 st.ob.length hd b ∧ ∀ i ∈ x.rowOf, blk (hd i) ≠ some b) (fun b _ hb => hb.1) (fun i hi b hb hn => hn.2 i hi hb)
  obtain ⟨A, c, cs, e, h2, h3⟩ := src_led h1
  exact ⟨A, c, cs, e, h2.mono (fun _ _ q => ics_flat ht q), h3⟩
theorem append_nothing {t e : TypeId} (ok : TabOk P tab) {i : TI} (h : elemZ tab t = some (e, i)) {v : Value} {n : Nat} (hv : Hdr v n) (c : Nat) (ty : TypeId) (w : World) : (Builtin.append_ #[t, t] ty #[v, .slice none 0 c]).run P w = .ok v w := by
  obtain ⟨h1, h2⟩ := elem_ok ok h
  have h3 := sizeOf_run ok h2 w
  obtain ⟨a, cap, rfl, hle⟩ := hv.form
  unfold Builtin.append_
  simp [run_underlying h1, go_sem]
  rw [h3]
  simp [Builtin.lenOf, Builtin.firstCells, hle, go_sem]
  cases a <;> simp [storeCells, go_sem]
theorem append_run {t e : TypeId} (ok : TabOk P tab) {i : TI} (h : elemZ tab t = some (e, i)) (base : Nat) {v : Value} {n : Nat} {cs0 : List Value} (ho : w.ownsRow base e i.t.size v n cs0) (hbase : base ≤ w.heap.size) {u : Value} {ys : List i.t.den} (hu : Src ρ U w i.t u ys)
    (hb : (n + ys.length) * i.bytes ≤ 140737488355328) (ty : TypeId) : ∃ cs v' w', Els (ICs ρ U w i.t) cs ys ∧ (Builtin.append_ #[t, t] ty #[v, u]).run P w = .ok v' w' ∧ w'.ownsRow base e i.t.size v' (n + ys.length) (cs0 ++ cs) ∧ w.grownBy w' v.ownBlock ∧ (v'.ownBlock = v.ownBlock ∨ v'.ownBlock = some w.heap.size) := by
  obtain ⟨h1, h2⟩ := elem_ok ok h
  obtain ⟨inf, i1, i2, i3, i4, i5⟩ := ok.info _ _ h2
  obtain ⟨A, c, cs, rfl, hels, hcell⟩ := hu
  have hz : ∀ c x, ICs ρ U w i.t c x → c.length = i.t.size := fun c x q => ICs.length q
  have hlen := Els.length hz hels
  have hone : ∀ u ∈ cs, u.oneCell' = true := by
    clear hcell hlen hb
    induction ys generalizing cs with
    | nil => cases hels; simp
    | cons y ys ih =>
      obtain ⟨c1, r1, rfl, q1, q2⟩ := hels
      intro u hu
      rw [List.mem_append] at hu
      rcases hu with hu | hu
      · exact ICs.ones q1 u hu
      · exact ih _ q2 u hu
  have hpc : (pack i.t (zeroC i.t)).cells.size = i.t.size := by
    rw [pack_cs (zero_ics (ρ := fun _ _ _ _ => True) (U := fun _ => True) (w := w) i.t)]
    simp [zero_len]
  have hml : n + ys.length ≤ 140737488355328 := Nat.le_trans (Nat.le_mul_of_pos_right _ i4) hb
  cases A with
  | none =>
    have h0 : ys.length = 0 := by
      rcases Nat.eq_zero_or_pos ys.length with h | h
      · exact h
      · obtain ⟨_, _, e, _⟩ := hcell h; cases e
    have hcs : cs = [] := List.eq_nil_of_length_eq_zero (by rw [hlen, h0]; simp)
    subst hcs
    refine ⟨[], v, w, hels, ?_, by rw [h0]; simpa using ho, ⟨rfl, rfl, rfl, Nat.le_refl _, fun _ _ _ => rfl⟩, .inl rfl⟩
    rw [h0]
    exact append_nothing ok h (own_hdr ho).1 c ty w
  | some ad =>
    have hnews : ∀ j u, cs[j]? = some u → w.cell? (ad.add j) = some u := fun j u hj => by
      have hj' : j < cs.length := (List.getElem?_eq_some_iff.1 hj).1
      have hp : 0 < ys.length := by
        rcases Nat.eq_zero_or_pos ys.length with h | h
        · rw [hlen, h] at hj'; simp at hj'
        · exact h
      obtain ⟨b, off, e, q⟩ := hcell hp
      injection e with e
      subst e
      have := q j hj'
      rw [hj] at this
      rw [← this]
      congr 1
      unfold Addr.add
      split
      · rename_i e; subst e; rfl
      · rfl
    obtain ⟨v', w', r1, r2, r3, _, r4⟩ := run_append_own_at (P := P) w base t ty e inf _ i.t.size i.bytes h1 i1 i5 i2 i3 hpc (T.size_pos _) v n cs0 ho ad ys.length c cs hlen hnews hone (by unfold maxLen; omega) hb hbase
    exact ⟨cs, v', w', hels, r1, r2, r3, r4⟩
theorem row_lt {st : St} {m : Nat} {e : TypeId} {t : T} {xs : List t.den} (hat : atn Ob.gone st.ob m = .row e t xs) : m < st.ob.length := by
  rcases Nat.lt_or_ge m st.ob.length with q | q
  · exact q
  · rw [atn_out _ _ _ q] at hat; cases hat
theorem blk_own {v : Value} {n : Nat} (h : Hdr v n) : blk v = v.ownBlock := by
  rcases h with ⟨rfl, _⟩ | ⟨g, c, rfl, _⟩ <;> rfl
/-- An append, its second operand being known. -/
theorem append_core {R : Type} {r : R} {k : St → Option R} (ok : TabOk P tab) (H : Rel ρ w0 U0 own hd0 st a w hd) {t e : TypeId} {i : TI} (hel : elemZ tab t = some (e, i)) {x : A} {vx vy : Value} {ys : List i.t.den} {d : Option Tmp} (h : appC own e i ys d st k x = some r)
    (hx : ∀ m e' u xs, x = .row m → atn Ob.gone st.ob m = .row e' u xs → vx = hd m) (hnl : x = .nls → vx = .slice none 0 0) (hy : Src ρ (Us U0 st.ob.length hd) w i.t vy ys) (ty : TypeId) :
    ∃ st' v' w' hd', k st' = some r ∧ (Builtin.append_ #[t, t] ty #[vx, vy]).run P w = .ok v' w' ∧ Rel ρ w0 U0 own hd0 st' (a.put d v') w' hd' := by
  unfold appC at h
  split at h
  · split at h
    · rename_i hb
      rw [hnl rfl]
      obtain ⟨cs, v', w', h1, h2, h3, h4, h5⟩ := append_run ok hel w.heap.size (World.ownsRow_nil w w.heap.size e i.t.size) (Nat.le_refl _) hy (by rw [Nat.zero_add]; exact hb) ty
      rw [Nat.zero_add, List.nil_append] at h3
      have hag : Ag (fun _ => False) w w' := Ag.of_grown h4 (fun b hb => by simp [Value.ownBlock] at hb)
      exact ⟨_, v', w', _, h, h2, H.newRow hag h3 h1 d⟩
    · cases h
  · rename_i m
    split at h
    · rename_i e' u xs hat
      split at h
      · rename_i hh
        obtain ⟨rfl, rfl, ho⟩ := hh
        split at h
        · rename_i hb
          have hm := row_lt hat
          have hro := H.ob m hm
          rw [hat, if_neg (by omega)] at hro
          obtain ⟨cs0, q1, q2⟩ := hro
          rw [hx m _ _ _ rfl hat]
          obtain ⟨cs, v', w', h1, h2, h3, h4, h5⟩ := append_run ok hel w0.heap.size q1 H.ag.size hy hb ty
          have hbl : blk (hd m) = (hd m).ownBlock := blk_own (own_hdr q1).1
          have hbl' : blk v' = v'.ownBlock := blk_own (own_hdr h3).1
          have hag : Ag (fun b => blk (hd m) = some b) w w' := Ag.of_grown h4 (fun b hb => by rw [hbl]; exact hb)
          have hbb : ∀ b, blk v' = some b → blk (hd m) = some b ∨ w.heap.size ≤ b := fun b hb => by
            rw [hbl'] at hb
            rcases h5 with h5 | h5
            · left; rw [hbl, ← h5]; exact hb
            · right; rw [h5] at hb; injection hb with hb; omega
          have hU := us_same (U0 := U0) (n := st.ob.length) hbb
          have ht : Tr (Us U0 st.ob.length hd) w (Us U0 st.ob.length (upd hd m v')) w' := Tr.of hag (fun b _ hb => .inr ⟨m, hm, hb⟩) hU
          have H2 := H.turn hm hag (o := .gone) (o' := .row e' i.t (xs ++ ys)) (v' := v') (upd hd m v') (fun j hj => upd_ne hj) (upd_same _ _ _) (fun hlt => by omega) hbb (by simp [Ob.refs]) (fun e t xs heq => by cases heq)
            ⟨cs0 ++ cs, by rw [if_neg (by omega), List.length_append]; exact h3, (q2.append h1).mono (fun _ _ q => ICs.tr ht q)⟩
          have H3 := H2.put (x := .row m) (v := v') (by simp [RA, upd_same]) (by simp [A.refs, length_setn, length_mapn, hm]) d
          exact ⟨_, v', w', _, h, h2, H3⟩
        · cases h
      · cases h
    · cases h
  · cases h
theorem append_sound {R : Type} {r : R} {k : St → Option R} (ok : TabOk P tab) (H : Rel ρ w0 U0 own hd0 st a w hd) {t : TypeId} {x y : Operand} {d : Option Tmp} (h : appendZ own tab t (ev st x) (ev st y) d st k = some r) (ty : TypeId) :
    ∃ st' v' w' hd', k st' = some r ∧ (Builtin.append_ #[t, t] ty #[a.eval x, a.eval y]).run P w = .ok v' w' ∧ Rel ρ w0 U0 own hd0 st' (a.put d v') w' hd' := by
  have hex := H.ev_ x
  have hey := H.ev_ y
  unfold appendZ at h
  split at h
  · rename_i e i hel
    split at h
    · rename_i ys hv
      split at h
      · rename_i hled
        split at h
        · rename_i hth
          obtain ⟨hd', H', hlen, hne, hus, hval⟩ := H.thaw hth (H.refs y)
          have hir := hval hv hey
          rw [← hlen] at hir
          exact append_core ok H' hel h (fun m e' u xs hm hat => by rw [hne m (thaw_row (H.refs y) hat)]; rw [hm] at hex; exact hex) (fun hm => by rw [hm] at hex; exact hex) (src_led hir) ty
        · cases h
      · rename_i hled
        exact append_core ok H hel h (fun m _ _ _ hm _ => by rw [hm] at hex; exact hex) (fun hm => by rw [hm] at hex; exact hex) (src_flat H (by simpa using hled) hv hey) ty
    · cases h
  · cases h
end
end Go.Proofs.Ythbojpaghbbnnaa.Z
