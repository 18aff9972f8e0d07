/- The state of the small machine and the state of the real one: what holds between them, and what steps leave of it. Plain lemmas; no condition. -/
import Derived.Test.YthbojpaghbbnnaaZC
namespace Go.Proofs.Ythbojpaghbbnnaa.Z
open Go Go.RowKit
set_option linter.unusedVariables false
set_option linter.unusedSimpArgs false

theorem length_setn {α : Type} (y : α) : ∀ (l : List α) (i : Nat), (setn y l i).length = l.length
  | [], _ => rfl
  | _ :: _, 0 => rfl
  | _ :: l, i + 1 => by simp [setn, length_setn y l i]
theorem atn_setn {α : Type} (d y : α) : ∀ (l : List α) (i j : Nat), atn d (setn y l i) j = if i = j ∧ i < l.length then y else atn d l j
  | [], i, j => by simp [setn, atn]
  | x :: l, 0, 0 => by simp [setn, atn]
  | x :: l, 0, j + 1 => by simp [setn, atn]
  | x :: l, i + 1, 0 => by simp [setn, atn]
  | x :: l, i + 1, j + 1 => by
    have := atn_setn d y l i j
    simp only [setn, atn, this, List.length_cons]
    by_cases h : i = j ∧ i < l.length
    · rw [if_pos h, if_pos ⟨by omega, by omega⟩]
    · rw [if_neg h, if_neg (by omega)]
theorem length_mapn {α : Type} (f : α → α) : ∀ l : List α, (mapn f l).length = l.length
  | [] => rfl
  | _ :: l => by simp [mapn, length_mapn f l]
theorem atn_mapn {α : Type} (d : α) (f : α → α) (hd : f d = d) : ∀ (l : List α) (i : Nat), atn d (mapn f l) i = f (atn d l i)
  | [], _ => hd.symm
  | _ :: _, 0 => rfl
  | _ :: l, i + 1 => atn_mapn d f hd l i
theorem atn_out {α : Type} (d : α) : ∀ (l : List α) (i : Nat), l.length ≤ i → atn d l i = d
  | [], _, _ => rfl
  | _ :: l, 0, h => by simp at h
  | _ :: l, i + 1, h => atn_out d l i (by simpa using h)
theorem atn_append {α : Type} (d : α) : ∀ (l r : List α) (i : Nat), atn d (l ++ r) i = if i < l.length then atn d l i else atn d r (i - l.length)
  | [], r, i => by simp
  | x :: l, r, 0 => by simp [atn]
  | x :: l, r, i + 1 => by
    have := atn_append d l r i
    simp only [List.cons_append, atn, this, List.length_cons]
    by_cases h : i < l.length
    · rw [if_pos h, if_pos (by omega)]
    · rw [if_neg h, if_neg (by omega), show i + 1 - (l.length + 1) = i - l.length by omega]

theorem atn_mem {α : Type} (d : α) : ∀ (l : List α) (i : Nat), i < l.length → atn d l i ∈ l
  | [], _, h => by simp at h
  | _ :: _, 0, _ => by simp [atn]
  | _ :: l, i + 1, h => List.mem_cons_of_mem _ (atn_mem d l i (by simpa using h))
def nilV : Value := .slice none 0 0
def blk : Value → Option Nat
  | .slice (some a) _ _ => some a.block
  | .pointer (some a) => some a.block
  | _ => none
def Us (U0 : Nat → Prop) (n : Nat) (hd : Nat → Value) : Nat → Prop := fun b => U0 b ∨ ∃ i, i < n ∧ blk (hd i) = some b
def RA (ρ : Obs) (U : Nat → Prop) (w : World) (hd : Nat → Value) : A → Value → Prop
  | .un, _ => True
  | .und, v => v = undef
  | .v t x, v => IRd ρ U w t v x
  | .nls, v => v = .slice none 0 0
  | .nlp, v => v = .pointer none
  | .row i, v => v = hd i
  | .cut i n full, v => ∃ a l c c', hd i = .slice a l c ∧ n ≤ l ∧ v = .slice a n c' ∧ n ≤ c' ∧ (full = true → c' = c)
  | .adr i j k s _, v => ∃ b l c, hd i = .slice (some ⟨b, 0, none⟩) l c ∧ j < l ∧ v = .pointer (some ⟨b, j * s + k, none⟩)
  | .ref t x, v => ∃ b off cs, v = .pointer (some ⟨b, off, none⟩) ∧ ICs ρ U w t cs x ∧ ∀ w', Ag U w w' → ∀ j, j < t.size → w'.cell? ⟨b, off + j, none⟩ = cs[j]?
  | .box i k, v => ∃ b, hd i = .pointer (some ⟨b, 0, none⟩) ∧ v = .pointer (some ⟨b, k, none⟩)
  | .tnil, v => v = .tuple #[]
  | .tcons a b, v => ∃ x xs, v = .tuple (x :: xs).toArray ∧ RA ρ U w hd a x ∧ RA ρ U w hd b (.tuple xs.toArray)
theorem RA.tr {ρ : Obs} {U U' : Nat → Prop} {w w' : World} {hd hd' : Nat → Value} (k : Tr U w U' w') : ∀ {x : A} {v : Value}, (∀ i ∈ x.refs, hd' i = hd i) → RA ρ U w hd x v → RA ρ U' w' hd' x v
  | .un, _, _, _ => trivial
  | .und, _, _, h => h
  | .v _ _, _, _, h => IRd.tr h k
  | .nls, _, _, h => h
  | .nlp, _, _, h => h
  | .row i, v, hr, h => by
    have := hr i (by simp [A.refs])
    simp only [RA] at h ⊢
    rw [this]
    exact h
  | .cut i n f, v, hr, h => by
    have := hr i (by simp [A.refs])
    simp only [RA] at h ⊢
    rw [this]
    exact h
  | .adr i _ _ _ _, v, hr, h => by
    have := hr i (by simp [A.refs])
    simp only [RA] at h ⊢
    rw [this]
    exact h
  | .ref _ _, _, _, ⟨b, off, cs, e, h1, h2⟩ => ⟨b, off, cs, e, ICs.tr k h1, fun w'' hw => h2 w'' (k w'' hw)⟩
  | .box i _, v, hr, h => by
    have := hr i (by simp [A.refs])
    simp only [RA] at h ⊢
    rw [this]
    exact h
  | .tnil, _, _, h => h
  | .tcons a b, _, hr, ⟨x, xs, e, h1, h2⟩ => ⟨x, xs, e, RA.tr k (fun i hi => hr i (by simp [A.refs, hi])) h1, RA.tr k (fun i hi => hr i (by simp [A.refs, hi])) h2⟩
def RO (ρ : Obs) (U : Nat → Prop) (w : World) (hd : Nat → Value) (B : Nat) : Ob → Value → Prop
  | .row e t xs, v => ∃ cs, w.ownsRow B e t.size v xs.length cs ∧ Els (ICs ρ U w t) cs xs
  | .cells e l, v => ∃ b vs, v = .pointer (some ⟨b, 0, none⟩) ∧ B ≤ b ∧ w.heap[b]? = some (.cells (List.toArray vs) e (0, 0)) ∧ vs.length = l.length ∧ ∀ i, i < l.length → ∃ x, vs[i]? = some x ∧ x.oneCell' = true ∧ RA ρ U w hd (atn .un l i) x
  | .gone, v => v = nilV
theorem own_of_block {w w' : World} {B sz n : Nat} {e : TypeId} {v : Value} {cs : List Value} (h : w.ownsRow B e sz v n cs) (hb : ∀ b, blk v = some b → w'.heap[b]? = w.heap[b]?) : w'.ownsRow B e sz v n cs := by
  obtain ⟨h1, h2⟩ := h
  refine ⟨h1, h2.imp id ?_⟩
  rintro ⟨g, cap, cur, e1, e2, e3, e4⟩
  exact ⟨g, cap, cur, e1, e2, (hb g (by rw [e1]; rfl)).trans e3, e4⟩
theorem own_blk {w : World} {B sz n : Nat} {e : TypeId} {v : Value} {cs : List Value} (h : w.ownsRow B e sz v n cs) {b : Nat} (hb : blk v = some b) : B ≤ b ∧ b < w.heap.size := by
  obtain ⟨h1, ⟨rfl, _⟩ | ⟨g, cap, cur, rfl, e2, e3, e4⟩⟩ := h
  · simp [blk] at hb
  · have : g = b := by simpa [blk] using hb
    subst this
    exact ⟨e2, (Array.getElem?_eq_some_iff.1 e3).1⟩
theorem RO.blk_ge {ρ : Obs} {U : Nat → Prop} {w : World} {hd : Nat → Value} {B : Nat} {o : Ob} {v : Value} (h : RO ρ U w hd B o v) {b : Nat} (hb : blk v = some b) : B ≤ b ∧ b < w.heap.size := by
  cases o with
  | row e t xs => obtain ⟨cs, h1, _⟩ := h; exact own_blk h1 hb
  | cells e l =>
    obtain ⟨b', vs, rfl, h1, h2, _⟩ := h
    have : b' = b := by simpa [blk] using hb
    subst this
    exact ⟨h1, (Array.getElem?_eq_some_iff.1 h2).1⟩
  | gone => simp only [RO] at h; rw [h] at hb; simp [blk, nilV] at hb
theorem RO.tr {ρ : Obs} {U U' : Nat → Prop} {w w' : World} {hd hd' : Nat → Value} {B : Nat} {o : Ob} {v : Value} (k : Tr U w U' w') (hr : ∀ i ∈ o.refs, hd' i = hd i) (hb : ∀ b, blk v = some b → w'.heap[b]? = w.heap[b]?) (h : RO ρ U w hd B o v) : RO ρ U' w' hd' B o v := by
  cases o with
  | row e t xs =>
    obtain ⟨cs, h1, h2⟩ := h
    exact ⟨cs, own_of_block h1 hb, h2.mono (fun c x q => ICs.tr k q)⟩
  | cells e l =>
    obtain ⟨b, vs, rfl, h1, h2, h3, h4⟩ := h
    refine ⟨b, vs, rfl, h1, (hb b rfl).trans h2, h3, fun i hi => ?_⟩
    obtain ⟨x, hx, ho, hxr⟩ := h4 i hi
    refine ⟨x, hx, ho, RA.tr k (fun j hj => hr j ?_) hxr⟩
    exact List.mem_flatMap.2 ⟨_, atn_mem _ l i hi, hj⟩
  | gone => exact h

/-- The state st tells the state a, w; hd: where the objects lie. -/
structure Rel (ρ : Obs) (w0 : World) (U0 : Nat → Prop) (own : Nat) (hd0 : Nat → Value) (st : St) (a : Act) (w : World) (hd : Nat → Value) : Prop where
  sz : a.tmps.size = st.tm.length
  df : a.defers = []
  sl : ∀ i v, a.tmps[i]? = some v → RA ρ (Us U0 st.ob.length hd) w hd (atn .un st.tm i) v
  ob : ∀ i, i < st.ob.length → RO ρ (Us U0 st.ob.length hd) w hd (if i < own then 0 else w0.heap.size) (atn .gone st.ob i) (hd i)
  ne : ∀ i j, i < st.ob.length → j < st.ob.length → i ≠ j → ∀ b, blk (hd i) = some b → blk (hd j) ≠ some b
  keep : ∀ i, i < own → hd i = hd0 i
  ow : own ≤ st.ob.length
  ag : Ag (Us (fun _ => False) own hd0) w0 w
  u0 : ∀ b, U0 b → b < w0.heap.size ∧ ∀ i, i < own → blk (hd0 i) ≠ some b
  wt : ∀ i, ∀ j ∈ (atn .un st.tm i).refs, j < st.ob.length
  wo : ∀ i, ∀ j ∈ (atn .gone st.ob i).refs, j < st.ob.length
section
variable {ρ : Obs} {w0 : World} {U0 : Nat → Prop} {own : Nat} {hd0 : Nat → Value} {st : St} {a : Act} {w : World} {hd : Nat → Value}
theorem Rel.lt (h : Rel ρ w0 U0 own hd0 st a w hd) {i b : Nat} (hi : i < st.ob.length) (hb : blk (hd i) = some b) : b < w.heap.size := ((h.ob i hi).blk_ge hb).2
theorem Rel.ge (h : Rel ρ w0 U0 own hd0 st a w hd) {i b : Nat} (hi : i < st.ob.length) (ho : own ≤ i) (hb : blk (hd i) = some b) : w0.heap.size ≤ b := by
  have := ((h.ob i hi).blk_ge hb).1
  rwa [if_neg (by omega)] at this
theorem Rel.u0n (h : Rel ρ w0 U0 own hd0 st a w hd) {i b : Nat} (hi : i < st.ob.length) (hb : blk (hd i) = some b) : ¬ U0 b := by
  intro hu
  obtain ⟨h1, h2⟩ := h.u0 b hu
  rcases Nat.lt_or_ge i own with ho | ho
  · rw [h.keep i ho] at hb
    exact h2 i ho hb
  · have := h.ge hi ho hb
    omega
theorem Rel.ev_ (h : Rel ρ w0 U0 own hd0 st a w hd) (x : Operand) : RA ρ (Us U0 st.ob.length hd) w hd (ev st x) (a.eval x) := by
  cases x with
  | tmp t =>
    simp only [ev, Act.eval]
    rcases Nat.lt_or_ge t a.tmps.size with h1 | h1
    · have := h.sl t a.tmps[t] (Array.getElem?_eq_getElem h1)
      simpa [Array.getD, h1] using this
    · rw [atn_out _ _ _ (by rw [← h.sz]; exact h1)]
      trivial
  | const v =>
    simp only [ev, Act.eval]
    unfold lit
    split
    · exact ⟨_, rfl, rfl⟩
    · exact ⟨_, rfl, rfl⟩
    · exact ⟨_, rfl, rfl⟩
    · rfl
    · rfl
    · trivial
  | global g => trivial
  | func f => trivial
theorem put_tmps (d : Option Tmp) (v : Value) (i : Nat) (u : Value) (hu : (a.put d v).tmps[i]? = some u) : (d = some i ∧ u = v) ∨ a.tmps[i]? = some u := by
  cases d with
  | none => exact .inr hu
  | some d =>
    simp only [Act.put, Array.getElem?_setIfInBounds] at hu
    by_cases e : d = i
    · rw [if_pos e] at hu
      by_cases hs : d < a.tmps.size
      · rw [if_pos hs] at hu
        exact .inl ⟨by rw [e], by injection hu with hu; exact hu.symm⟩
      · rw [if_neg hs] at hu; cases hu
    · rw [if_neg e] at hu
      exact .inr hu
theorem size_put (d : Option Tmp) (v : Value) : (a.put d v).tmps.size = a.tmps.size := by cases d <;> simp [Act.put]
theorem put_ob (st : St) (d : Option Tmp) (x : A) : (st.put d x).ob = st.ob := by cases d <;> rfl
theorem put_len (st : St) (d : Option Tmp) (x : A) : (st.put d x).tm.length = st.tm.length := by cases d <;> simp [St.put, length_setn]
/-- A temporary gets a value. -/
theorem put_refs (st : St) (d : Option Tmp) (x : A) {n : Nat} (h : ∀ i, ∀ j ∈ (atn .un st.tm i).refs, j < n) (hx : ∀ j ∈ x.refs, j < n) : ∀ i, ∀ j ∈ (atn .un (st.put d x).tm i).refs, j < n := by
  intro i j hj
  cases d with
  | none => exact h i j hj
  | some d =>
    simp only [St.put, atn_setn] at hj
    split at hj
    · exact hx j hj
    · exact h i j hj
theorem Rel.put (h : Rel ρ w0 U0 own hd0 st a w hd) {x : A} {v : Value} (hx : RA ρ (Us U0 st.ob.length hd) w hd x v) (hxr : ∀ j ∈ x.refs, j < st.ob.length) (d : Option Tmp) : Rel ρ w0 U0 own hd0 (st.put d x) (a.put d v) w hd := by
  refine ⟨by rw [size_put, put_len]; exact h.sz, by cases d <;> exact h.df, fun i u hu => ?_, by rw [put_ob]; exact h.ob, by rw [put_ob]; exact h.ne, h.keep, by rw [put_ob]; exact h.ow, h.ag, h.u0, by rw [put_ob]; exact put_refs st d x h.wt hxr, by rw [put_ob]; exact h.wo⟩
  rw [put_ob]
  rcases put_tmps d v i u hu with ⟨rfl, rfl⟩ | hu'
  · have hs : i < st.tm.length := by
      rw [← h.sz]
      have := (Array.getElem?_eq_some_iff.1 hu).1
      rwa [size_put] at this
    simp only [St.put, atn_setn, hs, and_self, if_true]
    exact hx
  · cases d with
    | none => exact h.sl i u hu'
    | some d =>
      simp only [St.put, atn_setn]
      split
      · rename_i hc
        obtain ⟨rfl, hc⟩ := hc
        have := (put_tmps (a := a) (some d) v d v (by simp [Act.put, h.sz, hc]))
        have e : u = v := by
          simp only [Act.put, Array.getElem?_setIfInBounds, h.sz, hc, if_true] at hu
          injection hu with hu
          exact hu.symm
        rw [e]
        exact hx
      · exact h.sl i u hu'
/-- Memory grows; nothing that was there turns. -/
theorem Rel.grow (h : Rel ρ w0 U0 own hd0 st a w hd) {w' : World} (k : Ag (fun _ => False) w w') : Rel ρ w0 U0 own hd0 st a w' hd := by
  have ht : Tr (Us U0 st.ob.length hd) w (Us U0 st.ob.length hd) w' := Tr.of k (fun _ _ h => h.elim) (fun _ _ h => h)
  exact ⟨h.sz, h.df, fun i v hv => RA.tr ht (fun _ _ => rfl) (h.sl i v hv), fun i hi => RO.tr ht (fun _ _ => rfl) (fun b hb => k.block b (h.lt hi hb) (fun h => h)) (h.ob i hi), h.ne, h.keep, h.ow,
    h.ag.trans (k.mono (fun _ _ h => h.elim)), h.u0, h.wt, h.wo⟩
/-- An object more. -/
theorem Rel.new (h : Rel ρ w0 U0 own hd0 st a w hd) {w' : World} (k : Ag (fun _ => False) w w') {o : Ob} {v : Value} (hd' : Nat → Value) (hlt : ∀ i, i < st.ob.length → hd' i = hd i) (hn : hd' st.ob.length = v)
    (hor : ∀ j ∈ o.refs, j < st.ob.length)
    (hb : ∀ b, blk v = some b → w.heap.size ≤ b) (ho : RO ρ (Us U0 (st.ob.length + 1) hd') w' hd' w0.heap.size o v) : Rel ρ w0 U0 own hd0 ⟨st.tm, st.ob ++ [o]⟩ a w' hd' := by
  have hU : ∀ b, b < w.heap.size → Us U0 (st.ob.length + 1) hd' b → Us U0 st.ob.length hd b := by
    rintro b hbl (hu | ⟨i, hi, hib⟩)
    · exact .inl hu
    · rcases Nat.lt_or_ge i st.ob.length with h1 | h1
      · exact .inr ⟨i, h1, by rw [← hlt i h1]; exact hib⟩
      · have : i = st.ob.length := by omega
        subst this
        rw [hn] at hib
        have := hb b hib
        omega
  have ht : Tr (Us U0 st.ob.length hd) w (Us U0 (st.ob.length + 1) hd') w' := Tr.of k (fun _ _ h => h.elim) hU
  refine ⟨h.sz, h.df, fun i u hu => ?_, fun i hi => ?_, fun i j hi hj hij b hbi hbj => ?_, fun i hi => ?_, ?_, h.ag.trans (k.mono (fun _ _ h => h.elim)), h.u0, fun i j hj => ?_, fun i j hj => ?_⟩
  · simp only [List.length_append, List.length_singleton]
    exact RA.tr ht (fun j hj => hlt j (h.wt i j hj)) (h.sl i u hu)
  · simp only [List.length_append, List.length_singleton] at hi ⊢
    rw [atn_append]
    rcases Nat.lt_or_ge i st.ob.length with h1 | h1
    · rw [if_pos h1, hlt i h1]
      exact RO.tr ht (fun j hj => hlt j (h.wo i j hj)) (fun b hb => k.block b (h.lt h1 hb) (fun h => h)) (h.ob i h1)
    · have : i = st.ob.length := by omega
      subst this
      rw [if_neg (Nat.not_lt.2 h.ow), if_neg (Nat.lt_irrefl _), Nat.sub_self, hn]
      exact ho
  · simp only [List.length_append, List.length_singleton] at hi hj
    rcases Nat.lt_or_ge i st.ob.length with h1 | h1
    · rw [hlt i h1] at hbi
      rcases Nat.lt_or_ge j st.ob.length with h2 | h2
      · rw [hlt j h2] at hbj
        exact h.ne i j h1 h2 hij b hbi hbj
      · have : j = st.ob.length := by omega
        subst this
        rw [hn] at hbj
        have := hb b hbj
        have := h.lt h1 hbi
        omega
    · have : i = st.ob.length := by omega
      subst this
      rw [hn] at hbi
      have h2 : j < st.ob.length := by omega
      rw [hlt j h2] at hbj
      have := hb b hbi
      have := h.lt h2 hbj
      omega
  · rw [hlt i (by have := h.ow; omega)]
    exact h.keep i hi
  · simp only [List.length_append, List.length_singleton]
    have := h.ow
    omega
  · simp only [List.length_append, List.length_singleton]
    have := h.wt i j hj
    omega
  · simp only [List.length_append, List.length_singleton]
    rw [atn_append] at hj
    split at hj
    · have := h.wo i j hj
      omega
    · have := hor j (by
        rcases Nat.eq_zero_or_pos (i - st.ob.length) with e | e
        · rw [e] at hj; exact hj
        · rw [atn_out _ _ _ (by simp; omega)] at hj
          simp [Ob.refs] at hj)
      omega
theorem frz_un (o : Ob) (i : Nat) : A.frz o i .un = .un := rfl
theorem ofrz_gone (o : Ob) (i : Nat) : Ob.frz o i .gone = .gone := rfl
theorem frz_refs {o : Ob} {m : Nat} : ∀ {x : A} {j : Nat}, j ∈ (A.frz o m x).refs → j ∈ x.refs ∧ j ≠ m
  | .row i, j, h => by
    simp only [A.frz] at h
    split at h
    · split at h <;> simp [A.refs] at h
    · rename_i hne
      simp [A.refs] at h
      subst h
      exact ⟨by simp [A.refs], hne⟩
  | .cut i n f, j, h => by
    simp only [A.frz] at h
    split at h
    · split at h <;> simp [A.refs] at h
    · rename_i hne
      simp [A.refs] at h
      subst h
      exact ⟨by simp [A.refs], hne⟩
  | .adr i _ _ _ _, j, h => by
    simp only [A.frz] at h
    split at h
    · simp [A.refs] at h
    · rename_i hne
      simp [A.refs] at h
      subst h
      exact ⟨by simp [A.refs], hne⟩
  | .box i _, j, h => by
    simp only [A.frz] at h
    split at h
    · simp [A.refs] at h
    · rename_i hne
      simp [A.refs] at h
      subst h
      exact ⟨by simp [A.refs], hne⟩
  | .tcons a b, j, h => by
    simp only [A.frz, A.refs, List.mem_append] at h ⊢
    rcases h with h | h
    · have := frz_refs h; exact ⟨.inl this.1, this.2⟩
    · have := frz_refs h; exact ⟨.inr this.1, this.2⟩
  | .un, _, h => by simp [A.frz, A.refs] at h
  | .und, _, h => by simp [A.frz, A.refs] at h
  | .v _ _, _, h => by simp [A.frz, A.refs] at h
  | .nls, _, h => by simp [A.frz, A.refs] at h
  | .nlp, _, h => by simp [A.frz, A.refs] at h
  | .ref _ _, _, h => by simp [A.frz, A.refs] at h
  | .tnil, _, h => by simp [A.frz, A.refs] at h
theorem mapn_mem {α : Type} (f : α → α) : ∀ {l : List α} {y : α}, y ∈ mapn f l → ∃ x ∈ l, f x = y
  | _ :: l, y, h => by
    simp only [mapn, List.mem_cons] at h
    rcases h with h | h
    · exact ⟨_, List.mem_cons_self .., h.symm⟩
    · obtain ⟨x, hx, e⟩ := mapn_mem f h
      exact ⟨x, List.mem_cons_of_mem _ hx, e⟩
theorem ofrz_refs {o : Ob} {m : Nat} {x : Ob} {j : Nat} (h : j ∈ (Ob.frz o m x).refs) : j ∈ x.refs ∧ j ≠ m := by
  cases x with
  | row e t xs => simp [Ob.frz, Ob.refs] at h
  | gone => simp [Ob.frz, Ob.refs] at h
  | cells e l =>
    simp only [Ob.frz, Ob.refs, List.mem_flatMap] at h ⊢
    obtain ⟨y, hy, hj⟩ := h
    obtain ⟨x, hx, rfl⟩ := mapn_mem _ hy
    have := frz_refs hj
    exact ⟨⟨x, hx, this.1⟩, this.2⟩
/-- Where the row's content is known for ever (or nothing of it is asked), what was known of the rest holds. -/
theorem RA.frz {U' : Nat → Prop} {w' : World} {U : Nat → Prop} {hd' : Nat → Value} {o : Ob} {m : Nat} (k : Tr U w U' w') (hne : ∀ i, i ≠ m → hd' i = hd i)
    (ho : ∀ e t xs, o = .row e t xs → IRd ρ U' w' (.list t) (hd m) xs ∧ ∀ n a l c c', hd m = .slice a l c → n ≤ l → n ≤ c' → IRd ρ U' w' (.list t) (.slice a n c') (List.take n xs)) :
    ∀ {x : A} {v : Value}, RA ρ U w hd x v → RA ρ U' w' hd' (A.frz o m x) v
  | .row i, v, h => by
    simp only [A.frz]
    split
    · rename_i e
      subst e
      simp only [RA] at h
      subst h
      split
      · exact (ho _ _ _ rfl).1
      · trivial
    · rename_i e
      simp only [RA] at h ⊢
      rw [hne i e]
      exact h
  | .cut i n f, v, h => by
    simp only [A.frz]
    split
    · rename_i e
      subst e
      obtain ⟨a, l, c, c', h1, h2, rfl, h3, _⟩ := h
      split
      · exact (ho _ _ _ rfl).2 n a l c c' h1 h2 h3
      · trivial
    · rename_i e
      simp only [RA] at h ⊢
      rw [hne i e]
      exact h
  | .adr i _ _ _ _, v, h => by
    simp only [A.frz]
    split
    · trivial
    · rename_i e
      simp only [RA] at h ⊢
      rw [hne i e]
      exact h
  | .box i _, v, h => by
    simp only [A.frz]
    split
    · trivial
    · rename_i e
      simp only [RA] at h ⊢
      rw [hne i e]
      exact h
  | .tcons a b, v, ⟨x, xs, e, h1, h2⟩ => ⟨x, xs, e, RA.frz k hne ho h1, RA.frz k hne ho h2⟩
  | .un, _, _ => trivial
  | .und, _, h => h
  | .v _ _, _, h => IRd.tr h k
  | .nls, _, h => h
  | .nlp, _, h => h
  | .ref _ _, _, ⟨b, off, cs, e, h1, h2⟩ => ⟨b, off, cs, e, ICs.tr k h1, fun w'' hw => h2 w'' (k w'' hw)⟩
  | .tnil, _, h => h
theorem RO.frz {U' : Nat → Prop} {w' : World} {U : Nat → Prop} {hd' : Nat → Value} {o : Ob} {m B : Nat} (k : Tr U w U' w') (hne : ∀ i, i ≠ m → hd' i = hd i)
    (ho : ∀ e t xs, o = .row e t xs → IRd ρ U' w' (.list t) (hd m) xs ∧ ∀ n a l c c', hd m = .slice a l c → n ≤ l → n ≤ c' → IRd ρ U' w' (.list t) (.slice a n c') (List.take n xs))
    {x : Ob} {v : Value} (hb : ∀ b, blk v = some b → w'.heap[b]? = w.heap[b]?) (h : RO ρ U w hd B x v) : RO ρ U' w' hd' B (Ob.frz o m x) v := by
  cases x with
  | row e t xs =>
    obtain ⟨cs, h1, h2⟩ := h
    exact ⟨cs, own_of_block h1 hb, h2.mono (fun c x q => ICs.tr k q)⟩
  | cells e l =>
    obtain ⟨b, vs, rfl, h1, h2, h3, h4⟩ := h
    refine ⟨b, vs, rfl, h1, (hb b rfl).trans h2, by rw [length_mapn]; exact h3, fun i hi => ?_⟩
    rw [length_mapn] at hi
    obtain ⟨x, hx, ho', hxr⟩ := h4 i hi
    refine ⟨x, hx, ho', ?_⟩
    rw [atn_mapn _ _ (frz_un o m)]
    exact RA.frz k hne ho hxr
  | gone => exact h
/-- Object m becomes another one; o: what is left of the old one's content. -/
theorem Rel.turn (h : Rel ρ w0 U0 own hd0 st a w hd) {m : Nat} (hm : m < st.ob.length) {w' : World} (hag : Ag (fun b => blk (hd m) = some b) w w') {o o' : Ob} {v' : Value} (hd' : Nat → Value) (hne : ∀ i, i ≠ m → hd' i = hd i) (hv : hd' m = v')
    (hown : m < own → v' = hd m) (hbl : ∀ b, blk v' = some b → blk (hd m) = some b ∨ w.heap.size ≤ b) (hor : ∀ j ∈ o'.refs, j < st.ob.length)
    (ho : ∀ e t xs, o = .row e t xs → IRd ρ (Us U0 st.ob.length hd') w' (.list t) (hd m) xs ∧ ∀ n a l c c', hd m = .slice a l c → n ≤ l → n ≤ c' → IRd ρ (Us U0 st.ob.length hd') w' (.list t) (.slice a n c') (List.take n xs))
    (hro : RO ρ (Us U0 st.ob.length hd') w' hd' (if m < own then 0 else w0.heap.size) o' v') :
    Rel ρ w0 U0 own hd0 ⟨mapn (A.frz o m) st.tm, setn o' (mapn (Ob.frz o m) st.ob) m⟩ a w' hd' := by
  have hU : ∀ b, b < w.heap.size → Us U0 st.ob.length hd' b → Us U0 st.ob.length hd b := by
    rintro b hb (hu | ⟨i, hi, hib⟩)
    · exact .inl hu
    · by_cases e : i = m
      · subst e
        rw [hv] at hib
        rcases hbl b hib with h1 | h1
        · exact .inr ⟨i, hi, h1⟩
        · omega
      · exact .inr ⟨i, hi, by rw [← hne i e]; exact hib⟩
  have ht : Tr (Us U0 st.ob.length hd) w (Us U0 st.ob.length hd') w' := Tr.of hag (fun b _ hb => .inr ⟨m, hm, hb⟩) hU
  have hlen : (setn o' (mapn (Ob.frz o m) st.ob) m).length = st.ob.length := by rw [length_setn, length_mapn]
  have hoth : ∀ i, i < st.ob.length → i ≠ m → ∀ b, blk (hd i) = some b → w'.heap[b]? = w.heap[b]? := fun i hi e b hb => hag.block b (h.lt hi hb) (fun hb' => h.ne i m hi hm e b hb hb')
  refine ⟨by rw [length_mapn]; exact h.sz, h.df, fun i v hv => ?_, fun i hi => ?_, fun i j hi hj hij b hbi hbj => ?_, fun i hi => ?_, by rw [hlen]; exact h.ow, ?_, h.u0, fun i j hj => ?_, fun i j hj => ?_⟩
  · rw [hlen, atn_mapn _ _ (frz_un o m)]
    exact RA.frz ht hne ho (h.sl i v hv)
  · rw [hlen] at hi ⊢
    by_cases e : m = i
    · subst e
      have e3 : atn Ob.gone (setn o' (mapn (Ob.frz o m) st.ob) m) m = o' := by rw [atn_setn, if_pos ⟨rfl, by rw [length_mapn]; exact hm⟩]
      rw [e3, hv]
      exact hro
    · have e' : i ≠ m := Ne.symm e
      have e3 : atn Ob.gone (setn o' (mapn (Ob.frz o m) st.ob) m) i = Ob.frz o m (atn Ob.gone st.ob i) := by rw [atn_setn, if_neg (fun hc => e hc.1), atn_mapn _ _ (ofrz_gone o m)]
      rw [e3, hne i e']
      exact RO.frz ht hne ho (hoth i hi e') (h.ob i hi)
  · rw [hlen] at hi hj
    by_cases e1 : i = m
    · subst e1
      rw [hv] at hbi
      rw [hne j (Ne.symm hij)] at hbj
      rcases hbl b hbi with h1 | h1
      · exact h.ne i j hi hj hij b h1 hbj
      · have := h.lt hj hbj; omega
    · rw [hne i e1] at hbi
      by_cases e2 : j = m
      · subst e2
        rw [hv] at hbj
        rcases hbl b hbj with h1 | h1
        · exact h.ne i j hi hj hij b hbi h1
        · have := h.lt hi hbi; omega
      · rw [hne j e2] at hbj
        exact h.ne i j hi hj hij b hbi hbj
  · by_cases e : i = m
    · subst e
      rw [hv, hown hi]
      exact h.keep i hi
    · rw [hne i e]
      exact h.keep i hi
  · refine ⟨hag.os.trans h.ag.os, hag.tape.trans h.ag.tape, hag.output.trans h.ag.output, Nat.le_trans h.ag.size hag.size, fun b hb hn => ?_⟩
    refine (hag.block b (Nat.lt_of_lt_of_le hb h.ag.size) (fun hbm => ?_)).trans (h.ag.block b hb hn)
    rcases Nat.lt_or_ge m own with h1 | h1
    · exact hn (.inr ⟨m, h1, by rw [← h.keep m h1]; exact hbm⟩)
    · have := h.ge hm h1 hbm
      omega
  · rw [hlen]
    rw [atn_mapn _ _ (frz_un o m)] at hj
    exact h.wt i j (frz_refs hj).1
  · rw [hlen]
    rw [atn_setn] at hj
    split at hj
    · exact hor j hj
    · rw [atn_mapn _ _ (ofrz_gone o m)] at hj
      exact h.wo i j (ofrz_refs hj).1
end
end Go.Proofs.Ythbojpaghbbnnaa.Z
