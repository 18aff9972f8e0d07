/- Every operation of the small machine is one of the real machine. Plain lemmas; no condition. -/
import Derived.Test.YthbojpaghbbnnaaZH
namespace Go.Proofs.Ythbojpaghbbnnaa.Z
open Go Go.RowKit
set_option linter.unusedVariables false
set_option linter.unusedSimpArgs false
section
variable {P : Program} {ρ : Obs} {w : World} {hd : Nat → Value} {w0 : World} {U0 : Nat → Prop} {own : Nat} {hd0 : Nat → Value} {st : St} {a : Act} {R : Type} {r : R}
/-- A call of f enters f's body. -/
def Enters (P : Program) (f : FuncId) : Prop := ∀ args w, (callFunc f args).run P w = .ok (.enter f args) w
theorem enters_of {f : FuncId} {fn : Func} (hf : P.funcs[f]? = some fn) (hn : (fn.name == "runtime.NumGoroutine") = false) (hb : fn.body.isNone = false) : Enters P f := fun args w => by
  have hn' : ¬ fn.name = "runtime.NumGoroutine" := by simpa using hn
  cases hbb : fn.body with
  | none => rw [hbb] at hb; cases hb
  | some c => simp [callFunc, hf, hn', hbb, go_sem]
/-- What an environment says is so. -/
structure EnvOk (P : Program) (ρ : Obs) (E : Env) : Prop where
  tab : TabOk P E.tab
  sg : ∀ f s, findSig E.sg f = some s → Enters P f ∧ Sound P ρ f s
/-- Does it leave old memory as it was? -/
def quietOp (E : Env) : Op → Bool
  | .store _ _ _ => false
  | .call ⟨.builtin .append, _, _⟩ => false
  | .call ⟨.value (.func f), _, _⟩ => match findSig E.sg f with
    | some s => nOwn s.ps == 0
    | none => false
  | _ => true
theorem wp_value {o : Oper} {N : Act → World → Prop} {Q : Exit → Act → World → Prop} {v : Value} {w' : World} (h : (execOp a.eval o).run P w = .ok (.value v) w') (hN : N (a.put o.dst v) w') : o.wp P a w N Q := by
  unfold Oper.wp
  rw [h]
  exact hN
theorem all2_atn {S : A → Value → Prop} : ∀ {l : List A} {vs : List Value}, All2 S l vs → vs.length = l.length ∧ ∀ i, i < l.length → ∃ x, vs[i]? = some x ∧ S (atn .un l i) x
  | [], [], _ => ⟨rfl, fun i h => by simp at h⟩
  | [], _ :: _, h => h.elim
  | _ :: _, [], h => h.elim
  | x :: l, v :: vs, h => by
    obtain ⟨h1, h2⟩ := all2_atn h.2
    refine ⟨by simp [h1], fun i hi => ?_⟩
    cases i with
    | zero => exact ⟨v, rfl, h.1⟩
    | succ i =>
      obtain ⟨x, q1, q2⟩ := h2 i (by simpa using hi)
      exact ⟨x, by simpa using q1, q2⟩
theorem all2_app {α β : Type} {S : α → β → Prop} : ∀ {l l' : List α} {m m' : List β}, All2 S l m → All2 S l' m' → All2 S (l ++ l') (m ++ m')
  | [], _, [], _, _, h => h
  | [], _, _ :: _, _, h, _ => h.elim
  | _ :: _, _, [], _, h, _ => h.elim
  | _ :: _, _, _ :: _, _, h, k => ⟨h.1, all2_app h.2 k⟩
theorem zero_all (U : Nat → Prop) (w : World) (hd : Nat → Value) : ∀ t : T, All2 (fun x v => v.oneCell' = true ∧ RA ρ U w hd x v ∧ x.refs = []) (zeroA t) (zeroC t)
  | .int k => ⟨⟨rfl, ⟨_, rfl, rfl⟩, rfl⟩, trivial⟩
  | .bool => ⟨⟨rfl, ⟨_, rfl, rfl⟩, rfl⟩, trivial⟩
  | .flt => ⟨⟨rfl, ⟨_, rfl, rfl⟩, rfl⟩, trivial⟩
  | .list _ => ⟨⟨rfl, rfl, rfl⟩, trivial⟩
  | .pair a b => all2_app (zero_all U w hd a) (zero_all U w hd b)
  | .obj n => ⟨⟨rfl, ⟨_, rfl, _, rfl, rfl⟩, rfl⟩, trivial⟩
theorem scat_all (U : Nat → Prop) (w : World) (hd : Nat → Value) : ∀ {t : T} {cs : List Value} {x : t.den}, ICs ρ U w t cs x → All2 (fun x v => v.oneCell' = true ∧ RA ρ U w hd x v ∧ x.refs = []) (scat t x) cs
  | .int k, cs, x, h => by cases h; exact ⟨⟨rfl, ⟨_, rfl, rfl⟩, rfl⟩, trivial⟩
  | .bool, cs, x, h => by cases h; exact ⟨⟨rfl, ⟨_, rfl, rfl⟩, rfl⟩, trivial⟩
  | .flt, cs, x, h => by cases h; exact ⟨⟨rfl, ⟨_, rfl, rfl⟩, rfl⟩, trivial⟩
  | .list t, cs, x, h => by
    obtain ⟨v, rfl, _, h1⟩ := ICs.one rfl h
    exact ⟨⟨h1, ⟨_, rfl, h⟩, rfl⟩, trivial⟩
  | .pair a b, cs, x, ⟨c, d, e, h1, h2⟩ => by rw [e]; exact all2_app (scat_all U w hd h1) (scat_all U w hd h2)
  | .obj n, cs, x, h => by
    obtain ⟨v, rfl, _, h1⟩ := ICs.one rfl h
    exact ⟨⟨h1, ⟨_, rfl, h⟩, rfl⟩, trivial⟩
theorem atn_getElem {α : Type} (d : α) : ∀ (l : List α) (i : Nat) (h : i < l.length), atn d l i = l[i]
  | [], i, h => by simp at h
  | _ :: _, 0, _ => rfl
  | _ :: l, i + 1, h => by simp only [atn, List.getElem_cons_succ]; exact atn_getElem d l i (by simpa using h)
/-- A new struct variable. -/
theorem Rel.newBox (H : Rel ρ w0 U0 own hd0 st a w hd) {e : TypeId} {l : List A} {cs : List Value} (h : All2 (fun x v => v.oneCell' = true ∧ RA ρ (Us U0 st.ob.length hd) w hd x v ∧ x.refs = []) l cs) (d : Option Tmp) :
    Rel ρ w0 U0 own hd0 (St.put ⟨st.tm, st.ob ++ [.cells e l]⟩ d (.box st.ob.length 0)) (a.put d (.pointer (some ⟨w.heap.size, 0, none⟩))) (w.alloc (.cells cs.toArray e)) (upd hd st.ob.length (.pointer (some ⟨w.heap.size, 0, none⟩))) := by
  have k : Ag (fun _ => False) w (w.alloc (.cells cs.toArray e)) := ⟨rfl, rfl, rfl, by simp, fun b hb _ => Below.heap_alloc w _ b hb⟩
  have hb : ∀ b, blk (Value.pointer (some ⟨w.heap.size, 0, none⟩)) = some b → w.heap.size ≤ b := fun b hb => by
    have : w.heap.size = b := by simpa [blk] using hb
    omega
  have ht : Tr (Us U0 st.ob.length hd) w (Us U0 (st.ob.length + 1) (upd hd st.ob.length (.pointer (some ⟨w.heap.size, 0, none⟩)))) (w.alloc (.cells cs.toArray e)) := Tr.of k (fun _ _ h => h.elim) (us_new hb)
  obtain ⟨h1, h2⟩ := all2_atn h
  have hno : ∀ j ∈ (Ob.cells e l).refs, j < st.ob.length := fun j hj => by
    obtain ⟨y, hy, hjy⟩ := List.mem_flatMap.1 hj
    obtain ⟨i, hi, e1⟩ := List.getElem_of_mem hy
    obtain ⟨x, _, _, _, h5⟩ := h2 i hi
    have : atn A.un l i = y := by rw [← e1]; exact atn_getElem _ l i hi
    rw [this] at h5
    rw [h5] at hjy
    cases hjy
  have H1 := H.new k (o := .cells e l) (v := .pointer (some ⟨w.heap.size, 0, none⟩)) _ (fun i hi => upd_ne (by omega)) (upd_same _ _ _) hno hb ⟨w.heap.size, cs, rfl, H.ag.size, heap_alloc_new w _, h1, fun i hi => by
    obtain ⟨x, q1, q2, q3, q4⟩ := h2 i hi
    exact ⟨x, q1, q2, RA.tr ht (fun j hj => by rw [q4] at hj; cases hj) q3⟩⟩
  exact H1.put (x := .box st.ob.length 0) (v := .pointer (some ⟨w.heap.size, 0, none⟩)) ⟨w.heap.size, by simp [upd_same], rfl⟩ (by simp [A.refs]) d
/-- What a list of operands leaves when all that is to be read for ever is frozen. -/
theorem thawAll_ok : ∀ (l : List A) (st : St) (hd : Nat → Value), Rel ρ w0 U0 own hd0 st a w hd → thawAllB own l = true → (∀ x ∈ l, ∀ j ∈ x.refs, j < st.ob.length) → ∃ hd1, Rel ρ w0 U0 own hd0 (thawAll l st) a w hd1 ∧ (thawAll l st).ob.length = st.ob.length ∧ (∀ b, Us U0 st.ob.length hd1 b → Us U0 st.ob.length hd b) ∧
    ∀ x ∈ l, ∀ {u : T} {v : Value} {y : u.den}, A.toV st.ob u x = some y → RA ρ (Us U0 st.ob.length hd) w hd x v → IRd ρ (Us U0 st.ob.length hd1) w u v y
  | [], st, hd, H, _, _ => ⟨hd, H, rfl, fun _ h => h, fun x hx => by cases hx⟩
  | x :: l, st, hd, H, hb, hr => by
    simp only [thawAllB, Bool.and_eq_true] at hb
    obtain ⟨hd', H', hlen, hne, hus, hval⟩ := H.thaw hb.1 (hr x (by simp))
    obtain ⟨hd1, q1, q2, q3, q4⟩ := thawAll_ok l (x.thaw st) hd' H' hb.2 (fun y hy j hj => by rw [hlen]; exact hr y (by simp [hy]) j hj)
    rw [hlen] at q2 q3
    refine ⟨hd1, q1, q2, fun b hb => hus b (q3 b hb), fun y hy u v z hz hra => ?_⟩
    have htr : Tr (Us U0 st.ob.length hd') w (Us U0 st.ob.length hd1) w := Tr.of (V := fun _ => False) (Ag.refl _ _) (fun _ _ h => h.elim) (fun b _ hb => q3 b hb)
    by_cases hyx : y = x
    · subst hyx
      exact (hval hz hra).tr htr
    · have hy' : y ∈ l := by simpa [hyx] using hy
      -- y names another row than x does, or the same: its content is known either way
      by_cases hshare : ∃ i ∈ y.rowOf, i ∈ x.rowOf
      · obtain ⟨i, hi, hix⟩ := hshare
        have hlt : i < st.ob.length := by
          cases y <;> simp [A.rowOf] at hi <;> subst hi <;> exact hr _ hy _ (by simp [A.refs])
        have hrow : ∃ e t, ∃ xs : List t.den, atn Ob.gone st.ob i = .row e t xs := by
          cases y <;> simp [A.rowOf] at hi <;> subst hi <;> simp only [A.toV] at hz <;> split at hz <;> first | (rename_i hat; exact ⟨_, _, _, hat⟩) | cases hz
        obtain ⟨e, t, xs, hat⟩ := hrow
        have hth : x.thaw st = st.frz i := by cases x <;> simp [A.rowOf] at hix <;> subst hix <;> rfl
        refine (toV_ird H hz hra (U' := Us U0 st.ob.length hd') (fun b _ hb => hus b hb) (fun j hj b hb hu => ?_)).tr htr
        have hji : j = i := by cases y <;> simp [A.rowOf] at hi hj <;> omega
        subst hji
        -- row j is frozen in hd'
        rcases hu with hu | ⟨q, hq, hqb⟩
        · exact H.u0n hlt hb hu
        · by_cases hqi : q = j
          · subst hqi
            have hro := H'.ob q (by rw [hlen]; exact hq)
            have hgone : atn Ob.gone (x.thaw st).ob q = .gone := by
              rw [hth]
              simp only [St.frz, hat]
              rw [atn_setn, if_pos ⟨rfl, by rw [length_mapn]; exact hlt⟩]
            rw [hgone] at hro
            rw [show hd' q = nilV from hro, blk_nilV] at hqb
            cases hqb
          · have hqx : q ∉ x.rowOf := fun hm => hqi (by cases x <;> simp [A.rowOf] at hix hm <;> omega)
            rw [hne q hqx] at hqb
            exact H.ne q j hq hlt hqi b hqb hb
      · have hno : ∀ i ∈ y.rowOf, i ∉ x.rowOf := fun i hi hix => hshare ⟨i, hi, hix⟩
        have hra' : RA ρ (Us U0 st.ob.length hd') w hd' y v := by
          have ht0 : Tr (Us U0 st.ob.length hd) w (Us U0 st.ob.length hd') w := Tr.of (V := fun _ => False) (Ag.refl _ _) (fun _ _ h => h.elim) (fun b _ hb => hus b hb)
          cases y with
          | row i => exact RA.tr ht0 (fun j hj => hne j (hno j (by simpa [A.refs, A.rowOf] using hj))) hra
          | cut i n f => exact RA.tr ht0 (fun j hj => hne j (hno j (by simpa [A.refs, A.rowOf] using hj))) hra
          | v t y => exact RA.tr ht0 (fun j hj => by cases hj) hra
          | nls => exact RA.tr ht0 (fun j hj => by cases hj) hra
          | nlp => exact RA.tr ht0 (fun j hj => by cases hj) hra
          | _ => simp [A.toV] at hz
        have hz' : A.toV (x.thaw st).ob u y = some z := by
          have hkeep : ∀ i ∈ y.rowOf, ∀ e t, ∀ xs : List t.den, atn Ob.gone st.ob i = .row e t xs → atn Ob.gone (x.thaw st).ob i = .row e t xs := fun i hi e t xs hat => by
            cases x with
            | row j => exact frz_row hat (fun e => hno i hi (by simp [A.rowOf, e]))
            | cut j n f => exact frz_row hat (fun e => hno i hi (by simp [A.rowOf, e]))
            | _ => exact hat
          cases y with
          | row i =>
            simp only [A.toV] at hz ⊢
            split at hz
            · rename_i e t xs hat
              rw [hkeep i (by simp [A.rowOf]) e t xs hat]
              exact hz
            · cases hz
          | cut i n f =>
            simp only [A.toV] at hz ⊢
            split at hz
            · rename_i e t xs hat
              rw [hkeep i (by simp [A.rowOf]) e t xs hat]
              exact hz
            · cases hz
          | v t y => exact hz
          | nls => exact hz
          | nlp => exact hz
          | _ => simp [A.toV] at hz
        rw [← hlen] at hra'
        have := q4 y hy' hz' hra'
        rw [hlen] at this
        exact this
/-- An operation that makes or changes memory. -/
theorem eff_sound {E : Env} (hE : EnvOk P ρ E) (ho : E.own = own) (H : Rel ρ w0 U0 own hd0 st a w hd) {o : Oper} {k : St → Option R} (h : effZ E o st k = some r) {N : Act → World → Prop} {Q : Exit → Act → World → Prop}
    (hN : ∀ st' a' w' hd', k st' = some r → Rel ρ w0 U0 own hd0 st' a' w' hd' → (quietOp E o.op = true → Ag (fun _ => False) w w') → N a' w') : o.wp P a w N Q := by
  obtain ⟨dst, op, type, pos, after, guard⟩ := o
  have he := H.ev_
  unfold effZ at h
  simp only at h hN
  split at h
  · rename_i f xs ts
    obtain ⟨s, hf, hc⟩ := call_sound ho (fun f s hs => (hE.sg f s hs).2) H (all2_map he xs.toList) h
    have hent := (hE.sg f s hf).1
    unfold Oper.wp
    have hr : (execOp a.eval ⟨dst, .call ⟨.value (.func f), xs, ts⟩, type, pos, after, guard⟩).run P w = .ok (.enter f (xs.map a.eval)) w := by
      have := hent (xs.map a.eval) w
      have hfv : a.eval (.func f) = .func (.func f) #[] #[] := rfl
      simp only [execOp, resolve, hfv, Deferred.ofValue, Sem.run_bind, Sem.run_pure, Result.andThen_ok, invoke, Array.append_empty, Array.empty_append, this]
    rw [hr]
    show Calls P f _ w _
    have e1 : (xs.toList.map a.eval).toArray = xs.map a.eval := by rw [← Array.toList_map, Array.toArray_toList]
    rw [← e1]
    refine hc.mono ?_
    rintro e w' ⟨v, st', hd', rfl, h1, h2, h3⟩
    refine hN _ _ _ _ h1 h2 (fun hq => h3 ?_)
    simp only [quietOp, hf] at hq
    simpa using hq
  · rename_i xs ts
    obtain ⟨xs⟩ := xs
    obtain ⟨ts⟩ := ts
    simp only at h
    split at h
    · rename_i x y t t'
      split at h
      · rename_i ht
        subst ht
        subst ho
        obtain ⟨st', v', w', hd', h1, h2, h3⟩ := append_sound hE.tab H h type
        refine wp_value (v := v') (w' := w') ?_ (hN _ _ _ _ h1 h3 (fun hq => by simp [quietOp] at hq))
        have h2' := h2
        simp only [execOp, resolve, invoke, builtin, Sem.run_bind, Sem.run_pure, Result.andThen_ok, List.map_toArray, List.map_cons, List.map_nil, h2']
      · cases h
    · cases h
  · rename_i t l c
    split at h
    · rename_i e i n m hel hl hc
      have el := IRd.int (hl ▸ he l)
      have ec := IRd.int (hc ▸ he c)
      split at h
      · rename_i hlc
        split at h
        · rename_i h0
          split at h
          · rename_i hb
            have : n = (0 : Int) := by
              unfold isZero at hlc
              split at hlc
              · rename_i n'
                simp only [ev, lit] at hl
                injection hl with _ hl
                have e0 : n' = 0 := by simpa using hlc
                rw [← hl, e0]
              · cases hlc
            subst this
            obtain ⟨v, w', h1, h2, h3⟩ := make_cap hE.tab hel h0 hb w
            refine wp_value (v := v) (w' := w') ?_ (hN _ _ _ _ h (H.newRow h3 (xs := []) (cs := []) h2 rfl dst) (fun _ => h3))
            simp only [execOp, Sem.run_bind, el, ec, h1, Result.andThen_ok, Sem.run_pure]
          · cases h
        · cases h
      · split at h
        · rename_i hnm
          subst hnm
          split at h
          · rename_i h0
            split at h
            · rename_i hb
              obtain ⟨v, w', h1, h2, h3⟩ := make_full hE.tab hel h0 hb w
              refine wp_value (v := v) (w' := w') ?_ (hN _ _ _ _ h (H.newRow h3 (by rw [List.length_replicate]; exact h2) (Els.replicate (zero_ics _) _) dst) (fun _ => h3))
              simp only [execOp, Sem.run_bind, el, ec, h1, Result.andThen_ok, Sem.run_pure]
            · cases h
          · cases h
        · cases h
    · cases h
  · rename_i t nn ps
    split at h
    · rename_i e i hel
      split at h
      · rename_i l hl
        split at h
        · rename_i hcnd
          obtain ⟨hlen, hnn, hth⟩ := hcnd
          rw [ho] at hth
          have hrf : ∀ x ∈ ps.toList.map (fun p => ev st p.2), ∀ j ∈ x.refs, j < st.ob.length := fun x hx => by
            obtain ⟨p, _, rfl⟩ := List.mem_map.1 hx
            exact H.refs p.2
          obtain ⟨hd1, q1, q2, q3, q4⟩ := thawAll_ok (ps.toList.map (fun p => ev st p.2)) st hd H hth hrf
          obtain ⟨vs, r1, r2, r3, r4⟩ := parts_all (ρ := ρ) (U := Us U0 st.ob.length hd1) (w := w) (st := st) (ev' := a.eval) st.ob (u := i.t) ps.toList 0 (fun p hp y hy => q4 _ (List.mem_map.2 ⟨p, hp, rfl⟩) hy (he p.2)) hl
          have hps : (ps.map fun (i, x) => (i, a.eval x)).toList = ((ps.toList.map fun p => a.eval p.2).zipIdx 0).map fun p => (p.2, p.1) := by
            rw [← r4]
            simp
          have hvl : vs.length = nn := by rw [r3]; exact hlen
          obtain ⟨v, w', s1, s2, s3⟩ := build_row hE.tab hel hps r1 (by rw [hvl]; exact hnn) w
          rw [← q2] at r2
          rw [hvl] at s1
          refine wp_value (v := v) (w' := w') ?_ (hN _ _ _ _ h (q1.newRow s3 (by rw [← r3]; exact s2) r2 dst) (fun _ => s3))
          simp only [execOp, Sem.run_bind, s1, Result.andThen_ok, Sem.run_pure]
        · cases h
      · cases h
    · cases h
  · rename_i e
    split at h
    · rename_i i hf
      obtain ⟨inf, i1, _, _, _, i5⟩ := hE.tab.info _ _ hf
      have hpc : (pack i.t (zeroC i.t)).cells = (zeroC i.t).toArray := pack_cs (zero_ics (ρ := fun _ _ _ _ => True) (U := fun _ => True) (w := w) i.t)
      have k0 : Ag (fun _ => False) w (w.alloc (.cells (zeroC i.t).toArray e)) := ⟨rfl, rfl, rfl, by simp, fun b hb _ => Below.heap_alloc w _ b hb⟩
      refine wp_value (v := .pointer (some ⟨w.heap.size, 0, none⟩)) (w' := w.alloc (.cells (zeroC i.t).toArray e)) ?_ (hN _ _ _ _ h (H.newBox (zero_all _ _ _ _) dst) (fun _ => k0))
      simp [execOp, Instr.alloc, zeroValue, typeInfo, i1, i5, newVar, Go.newRow, go_sem]
      exact congrArg (fun c => w.alloc (.cells c e)) hpc
    · cases h
  · rename_i e x
    split at h
    · rename_i i hf
      split at h
      · rename_i y st1 hy
        split at h
        · rename_i hth
          rw [ho] at hth
          obtain ⟨hd', H', hlen, hne, hus, hval⟩ := H.thaw hth (H.refs x)
          obtain ⟨cs, e1, hcs⟩ := hval hy (he x)
          rw [← hlen] at hcs
          have k0 : Ag (fun _ => False) w (w.alloc (.cells cs.toArray e)) := ⟨rfl, rfl, rfl, by simp, fun b hb _ => Below.heap_alloc w _ b hb⟩
          refine wp_value (v := .pointer (some ⟨w.heap.size, 0, none⟩)) (w' := w.alloc (.cells cs.toArray e)) ?_ (hN _ _ _ _ h (H'.newBox (scat_all _ _ _ hcs) dst) (fun _ => k0))
          simp only [execOp, Instr.box, e1, newVar, Go.newRow, pack_cs hcs, Sem.run_bind, Sem.run_pure, run_newObj_alloc, Result.andThen_ok]
        · cases h
      · cases h
    · cases h
  · rename_i t ad x
    rw [ho] at h
    obtain ⟨st', w', hd', h1, h2, h3⟩ := store_sound hE.tab H h
    unfold Oper.wp
    have hr : (execOp a.eval ⟨dst, .store t ad x, type, pos, after, guard⟩).run P w = .ok .skip w' := by
      simp only [execOp, Sem.run_bind, h2, Result.andThen_ok, Sem.run_pure]
    rw [hr]
    exact hN _ _ _ _ h1 (h3.put (x := .und) (v := undef) rfl (by simp [A.refs]) dst) (fun hq => by simp [quietOp] at hq)
  · cases h
end
end Go.Proofs.Ythbojpaghbbnnaa.Z
