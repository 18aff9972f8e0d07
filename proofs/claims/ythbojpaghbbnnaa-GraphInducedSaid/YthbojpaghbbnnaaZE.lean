/- The small machine's operations that look at no memory yield what it says. Plain lemmas; no condition. -/
import Derived.Test.YthbojpaghbbnnaaZD
namespace Go.Proofs.Ythbojpaghbbnnaa.Z
open Go Go.RowKit
set_option linter.unusedVariables false
set_option linter.unusedSimpArgs false

/-- The zero value's cells. -/
def zeroC : T → List Value
  | .int k => [.int k 0]
  | .bool => [.bool false]
  | .flt => [.float .f64 0]
  | .list _ => [.slice none 0 0]
  | .pair a b => zeroC a ++ zeroC b
  | .obj _ => [.pointer none]
  | .ptr _ => [.pointer none]
  | .one t => zeroC t
/-- What the table says of a type is so. -/
def UndOk (P : Program) (tab : Tab) (id : TypeId) (i : TI) : Und → Prop
  | .sc => (∃ k, i.t = .int k ∧ P.underlying id = some (.int k)) ∨ (i.t = .bool ∧ P.underlying id = some .bool) ∨ (i.t = .flt ∧ P.underlying id = some (.float .f64))
  | .ptr => i.t.isPair = false ∧ ∃ e, P.underlying id = some (.pointer e)
  | .sl e => P.underlying id = some (.slice e) ∧ ∃ j, tab.find e = some j ∧ i.t = .list j.t
  | .st fs => i.t.isPair = true ∧ ∃ fields : Array Field, P.underlying id = some (.struct fields) ∧ fields.size = fs.length ∧ ∀ k, k < fs.length → ∃ f j, fields[k]? = some f ∧ f.offset = (atn (0, 0) fs k).1 ∧ f.type = (atn (0, 0) fs k).2 ∧ tab.find f.type = some j
structure TabOk (P : Program) (tab : Tab) : Prop where
  info : ∀ id i, tab.find id = some i → ∃ inf : TypeInfo, P.info? id = some inf ∧ inf.size = i.t.size ∧ inf.bytes = i.bytes ∧ 0 < i.bytes ∧ inf.zero = some (pack i.t (zeroC i.t))
  und : ∀ id i, tab.find id = some i → UndOk P tab id i i.u
theorem T.size_pos : ∀ t : T, 0 < t.size
  | .int _ => by simp [T.size]
  | .bool => by simp [T.size]
  | .flt => by simp [T.size]
  | .list _ => by simp [T.size]
  | .pair a b => by have := a.size_pos; simp only [T.size]; omega
  | .obj _ => by simp [T.size]
  | .ptr _ => by simp [T.size]
  | .one t => by have := t.size_pos; simp only [T.size]; omega
theorem T.size_one : ∀ t : T, t.isPair = false → t.size = 1
  | .int _, _ => rfl
  | .bool, _ => rfl
  | .flt, _ => rfl
  | .list _, _ => rfl
  | .obj _, _ => rfl
  | .ptr _, _ => rfl
section
variable {P : Program} {tab : Tab} {ρ : Obs} {U : Nat → Prop} {w : World} {hd : Nat → Value}
theorem isAgg_run (ok : TabOk P tab) {id : TypeId} {i : TI} (h : tab.find id = some i) (w : World) : (isAgg id).run P w = .ok i.t.isPair w := by
  have h2 := ok.und id i h
  cases hu : i.u with
  | sc =>
    rw [hu] at h2
    rcases h2 with ⟨k, h3, h4⟩ | ⟨h3, h4⟩ | ⟨h3, h4⟩ <;> rw [h3] <;> simp [isAgg, underlying, h4, go_sem, T.isPair]
  | ptr =>
    rw [hu] at h2
    obtain ⟨h3, e, h4⟩ := h2
    rw [h3]
    simp [isAgg, underlying, h4, go_sem]
  | sl e =>
    rw [hu] at h2
    obtain ⟨h4, j, _, h3⟩ := h2
    rw [h3]
    simp [isAgg, underlying, h4, go_sem, T.isPair]
  | st fs =>
    rw [hu] at h2
    obtain ⟨h3, f, h4, _⟩ := h2
    rw [h3]
    simp [isAgg, underlying, h4, go_sem]
theorem sizeOf_run (ok : TabOk P tab) {id : TypeId} {i : TI} (h : tab.find id = some i) (w : World) : (sizeOf id).run P w = .ok i.t.size w := by
  obtain ⟨inf, h1, h2, _⟩ := ok.info id i h
  simp [sizeOf, typeInfo, h1, h2, go_sem]
/-- A value that is no struct is one cell. -/
theorem ICs.one {w : World} : ∀ {t : T} {cs : List Value} {x : t.den}, t.isPair = false → ICs ρ U w t cs x → ∃ v, cs = [v] ∧ v.cells = #[v] ∧ v.oneCell' = true
  | .int _, _, _, _, h => ⟨_, h, rfl, rfl⟩
  | .bool, _, _, _, h => ⟨_, h, rfl, rfl⟩
  | .flt, _, _, _, h => ⟨_, h, rfl, rfl⟩
  | .list _, _, _, _, ⟨_, _, _, h, _⟩ => ⟨_, h, rfl, rfl⟩
  | .obj _, _, none, _, ⟨v, h, h1⟩ => ⟨v, h, by rw [h1]; rfl, by rw [h1]; rfl⟩
  | .obj _, _, some y, _, ⟨v, h, ⟨a, h1⟩, _⟩ => ⟨v, h, by rw [h1]; rfl, by rw [h1]; rfl⟩
  | .ptr _, _, none, _, ⟨v, h, h1⟩ => ⟨v, h, by rw [h1]; rfl, by rw [h1]; rfl⟩
  | .ptr _, _, some y, _, ⟨v, h, _, _, _, h1, _⟩ => ⟨v, h, by rw [h1]; rfl, by rw [h1]; rfl⟩
theorem ICs.ones {w : World} : ∀ {t : T} {cs : List Value} {x : t.den}, ICs ρ U w t cs x → ∀ v ∈ cs, v.oneCell' = true
  | .int _, _, _, h, v, hv => by obtain ⟨u, rfl, _, h3⟩ := ICs.one rfl h; rw [List.mem_singleton.1 hv]; exact h3
  | .bool, _, _, h, v, hv => by obtain ⟨u, rfl, _, h3⟩ := ICs.one rfl h; rw [List.mem_singleton.1 hv]; exact h3
  | .flt, _, _, h, v, hv => by obtain ⟨u, rfl, _, h3⟩ := ICs.one rfl h; rw [List.mem_singleton.1 hv]; exact h3
  | .list _, _, _, h, v, hv => by obtain ⟨u, rfl, _, h3⟩ := ICs.one rfl h; rw [List.mem_singleton.1 hv]; exact h3
  | .obj _, _, _, h, v, hv => by obtain ⟨u, rfl, _, h3⟩ := ICs.one rfl h; rw [List.mem_singleton.1 hv]; exact h3
  | .ptr _, _, _, h, v, hv => by obtain ⟨u, rfl, _, h3⟩ := ICs.one rfl h; rw [List.mem_singleton.1 hv]; exact h3
  | .one t, cs, x, h, v, hv => ICs.ones (t := t) (cs := cs) (x := x) h v hv
  | .pair a b, _, _, ⟨c, d, e, h1, h2⟩, v, hv => by
    rw [e, List.mem_append] at hv
    rcases hv with hv | hv
    · exact ICs.ones h1 v hv
    · exact ICs.ones h2 v hv
theorem pack_cs {w : World} {t : T} {cs : List Value} {x : t.den} (h : ICs ρ U w t cs x) : (pack t cs).cells = cs.toArray := by
  cases hp : t.isPair with
  | true => rw [pack_agg hp]; rfl
  | false =>
    obtain ⟨v, rfl, h2, _⟩ := ICs.one hp h
    cases t <;> simp [T.isPair] at hp <;> simpa [pack] using h2
theorem ICs.sub {w : World} (u : T) : ∀ {t : T} {cs : List Value} {x : t.den} {o : Nat} {y : u.den}, ICs ρ U w t cs x → T.sub u t o x = some y → ICs ρ U w u ((cs.drop o).take u.size) y ∧ o + u.size ≤ t.size
  | .int p, cs, x, o, y, h, e => by
    have hl := ICs.length h
    unfold T.sub at e
    split at e
    · rename_i hh; obtain ⟨rfl, rfl⟩ := hh; cases e; exact ⟨by rw [List.drop_zero, ← hl, List.take_length]; exact h, by omega⟩
    · cases e
  | .bool, cs, x, o, y, h, e => by
    have hl := ICs.length h
    unfold T.sub at e
    split at e
    · rename_i hh; obtain ⟨rfl, rfl⟩ := hh; cases e; exact ⟨by rw [List.drop_zero, ← hl, List.take_length]; exact h, by omega⟩
    · cases e
  | .flt, cs, x, o, y, h, e => by
    have hl := ICs.length h
    unfold T.sub at e
    split at e
    · rename_i hh; obtain ⟨rfl, rfl⟩ := hh; cases e; exact ⟨by rw [List.drop_zero, ← hl, List.take_length]; exact h, by omega⟩
    · cases e
  | .list t, cs, x, o, y, h, e => by
    have hl := ICs.length h
    unfold T.sub at e
    split at e
    · rename_i hh; obtain ⟨rfl, rfl⟩ := hh; cases e; exact ⟨by rw [List.drop_zero, ← hl, List.take_length]; exact h, by omega⟩
    · cases e
  | .obj n, cs, x, o, y, h, e => by
    have hl := ICs.length h
    unfold T.sub at e
    split at e
    · rename_i hh; obtain ⟨rfl, rfl⟩ := hh; cases e; exact ⟨by rw [List.drop_zero, ← hl, List.take_length]; exact h, by omega⟩
    · cases e
  | .ptr n, cs, x, o, y, h, e => by
    have hl := ICs.length h
    unfold T.sub at e
    split at e
    · rename_i hh; obtain ⟨rfl, rfl⟩ := hh; cases e; exact ⟨by rw [List.drop_zero, ← hl, List.take_length]; exact h, by omega⟩
    · cases e
  | .one t, cs, x, o, y, h, e => by
    have hl := ICs.length h
    unfold T.sub at e
    split at e
    · rename_i hh; obtain ⟨rfl, rfl⟩ := hh; cases e; exact ⟨by rw [List.drop_zero, ← hl, List.take_length]; exact h, by omega⟩
    · exact ICs.sub u (t := t) (cs := cs) (x := x) h e
  | .pair a b, cs, x, o, y, h, e => by
    have hl := ICs.length h
    unfold T.sub at e
    split at e
    · rename_i hh; obtain ⟨rfl, rfl⟩ := hh; cases e; exact ⟨by rw [List.drop_zero, ← hl, List.take_length]; exact h, by omega⟩
    · obtain ⟨c, d, rfl, h1, h2⟩ := h
      have l1 := ICs.length h1
      split at e
      · obtain ⟨k1, k2⟩ := ICs.sub u h1 e
        refine ⟨?_, by simp only [T.size]; omega⟩
        rw [List.drop_append_of_le_length (by omega), List.take_append_of_le_length (by rw [List.length_drop]; omega)]
        exact k1
      · rename_i hn
        obtain ⟨k1, k2⟩ := ICs.sub u h2 e
        refine ⟨?_, by simp only [T.size]; omega⟩
        rw [show o = c.length + (o - a.size) by omega, ← List.drop_drop, List.drop_left' rfl]
        exact k1
theorem ICs.upd {w : World} (u : T) {ds : List Value} {y : u.den} (hd : ICs ρ U w u ds y) : ∀ {t : T} {cs : List Value} {x z : t.den} {o : Nat}, ICs ρ U w t cs x → T.upd u y t o x = some z → ICs ρ U w t (cs.take o ++ ds ++ cs.drop (o + u.size)) z ∧ o + u.size ≤ t.size
  | .int p, cs, x, z, o, h, e => by
    have hl := ICs.length h
    unfold T.upd at e
    split at e
    · rename_i hh; obtain ⟨rfl, rfl⟩ := hh; cases e; exact ⟨by rw [List.take_zero, Nat.zero_add, ← hl, List.drop_length, List.nil_append, List.append_nil]; exact hd, by omega⟩
    · cases e
  | .bool, cs, x, z, o, h, e => by
    have hl := ICs.length h
    unfold T.upd at e
    split at e
    · rename_i hh; obtain ⟨rfl, rfl⟩ := hh; cases e; exact ⟨by rw [List.take_zero, Nat.zero_add, ← hl, List.drop_length, List.nil_append, List.append_nil]; exact hd, by omega⟩
    · cases e
  | .flt, cs, x, z, o, h, e => by
    have hl := ICs.length h
    unfold T.upd at e
    split at e
    · rename_i hh; obtain ⟨rfl, rfl⟩ := hh; cases e; exact ⟨by rw [List.take_zero, Nat.zero_add, ← hl, List.drop_length, List.nil_append, List.append_nil]; exact hd, by omega⟩
    · cases e
  | .list t, cs, x, z, o, h, e => by
    have hl := ICs.length h
    unfold T.upd at e
    split at e
    · rename_i hh; obtain ⟨rfl, rfl⟩ := hh; cases e; exact ⟨by rw [List.take_zero, Nat.zero_add, ← hl, List.drop_length, List.nil_append, List.append_nil]; exact hd, by omega⟩
    · cases e
  | .obj n, cs, x, z, o, h, e => by
    have hl := ICs.length h
    unfold T.upd at e
    split at e
    · rename_i hh; obtain ⟨rfl, rfl⟩ := hh; cases e; exact ⟨by rw [List.take_zero, Nat.zero_add, ← hl, List.drop_length, List.nil_append, List.append_nil]; exact hd, by omega⟩
    · cases e
  | .ptr n, cs, x, z, o, h, e => by
    have hl := ICs.length h
    unfold T.upd at e
    split at e
    · rename_i hh; obtain ⟨rfl, rfl⟩ := hh; cases e; exact ⟨by rw [List.take_zero, Nat.zero_add, ← hl, List.drop_length, List.nil_append, List.append_nil]; exact hd, by omega⟩
    · cases e
  | .one t, cs, x, z, o, h, e => by
    have hl := ICs.length h
    unfold T.upd at e
    split at e
    · rename_i hh; obtain ⟨rfl, rfl⟩ := hh; cases e; exact ⟨by rw [List.take_zero, Nat.zero_add, ← hl, List.drop_length, List.nil_append, List.append_nil]; exact hd, by omega⟩
    · exact ICs.upd u hd (t := t) (cs := cs) (x := x) h e
  | .pair a b, cs, x, z, o, h, e => by
    have hl := ICs.length h
    unfold T.upd at e
    split at e
    · rename_i hh; obtain ⟨rfl, rfl⟩ := hh; cases e; exact ⟨by rw [List.take_zero, Nat.zero_add, ← hl, List.drop_length, List.nil_append, List.append_nil]; exact hd, by omega⟩
    · obtain ⟨c, d, rfl, h1, h2⟩ := h
      have l1 := ICs.length h1
      split at e
      · obtain ⟨z1, hz1, rfl⟩ := Option.map_eq_some_iff.1 e
        obtain ⟨k1, k2⟩ := ICs.upd u hd h1 hz1
        refine ⟨⟨_, d, ?_, k1, h2⟩, by simp only [T.size]; omega⟩
        rw [List.take_append_of_le_length (by omega), List.drop_append_of_le_length (by omega)]
        simp only [List.append_assoc]
      · rename_i hn
        obtain ⟨z1, hz1, rfl⟩ := Option.map_eq_some_iff.1 e
        obtain ⟨k1, k2⟩ := ICs.upd u hd h2 hz1
        refine ⟨⟨c, _, ?_, h1, k1⟩, by simp only [T.size]; omega⟩
        have e1 : o = c.length + (o - a.size) := by omega
        rw [List.take_append, List.take_of_length_le (by omega), show o - c.length = o - a.size by omega, show o + u.size = c.length + (o - a.size + u.size) by omega, ← List.drop_drop, List.drop_left' rfl]
        simp only [List.append_assoc]
theorem IRd.int {k : IntKind} {v : Value} {x : Int} (h : IRd ρ U w (.int k) v x) : v = .int k x := by
  obtain ⟨cs, rfl, h⟩ := h
  have := h
  simp only [ICs] at this
  subst this
  rfl
theorem IRd.bool {v : Value} {x : Bool} (h : IRd ρ U w .bool v x) : v = .bool x := by
  obtain ⟨cs, rfl, h⟩ := h
  have := h
  simp only [ICs] at this
  subst this
  rfl
theorem IRd.flt {v : Value} {x : Nat} (h : IRd ρ U w .flt v x) : v = .float .f64 x := by
  obtain ⟨cs, rfl, h⟩ := h
  have := h
  simp only [ICs] at this
  subst this
  rfl
theorem IRd.obj {n : Nat} {v : Value} {x : Option (OT n)} (h : IRd ρ U w (.obj n) v x) : (x = none ∧ v = .pointer none) ∨ (∃ y a, x = some y ∧ v = .pointer (some a)) := by
  obtain ⟨cs, rfl, h⟩ := h
  obtain ⟨v, rfl, h2⟩ := h
  cases x with
  | none => exact .inl ⟨rfl, h2⟩
  | some y =>
    obtain ⟨⟨a, h3⟩, _⟩ := h2
    exact .inr ⟨y, a, rfl, h3⟩
theorem IRd.ptr {t : T} {v : Value} {x : Option t.den} (h : IRd ρ U w (.ptr t) v x) : (x = none ∧ v = .pointer none) ∨ ∃ y b off ds, x = some y ∧ v = .pointer (some ⟨b, off, none⟩) ∧ ICs ρ U w t ds y ∧ ∀ w', Ag U w w' → ∀ j, j < t.size → w'.cell? ⟨b, off + j, none⟩ = ds[j]? := by
  obtain ⟨cs, rfl, h⟩ := h
  obtain ⟨v, rfl, h2⟩ := h
  cases x with
  | none => exact .inl ⟨rfl, h2⟩
  | some y =>
    obtain ⟨b, off, ds, h3, h4, h5⟩ := h2
    exact .inr ⟨y, b, off, ds, rfl, h3, h4, h5⟩
theorem IRd.list {t : T} {v : Value} {xs : List t.den} (h : IRd ρ U w (.list t) v xs) : ∃ A c, v = .slice A xs.length c ∧ xs.length ≤ maxLen := by
  obtain ⟨cs, rfl, h⟩ := h
  obtain ⟨A, c, ds, rfl, h2, _⟩ := h
  exact ⟨A, c, rfl, h2⟩
theorem ira_int (ρ : Obs) (U : Nat → Prop) (w : World) (hd : Nat → Value) (k : IntKind) (x : Int) : RA ρ U w hd (.v (.int k) x) (.int k x) := ⟨_, rfl, rfl⟩
theorem ira_bool (ρ : Obs) (U : Nat → Prop) (w : World) (hd : Nat → Value) (x : Bool) : RA ρ U w hd (.v .bool x) (.bool x) := ⟨_, rfl, rfl⟩
theorem ira_flt (ρ : Obs) (U : Nat → Prop) (w : World) (hd : Nat → Value) (x : Nat) : RA ρ U w hd (.v .flt x) (.float .f64 x) := ⟨_, rfl, rfl⟩
/-- What an operation that looks at no memory leaves. -/
def Yes {R : Type} (P : Program) (ρ : Obs) (U : Nat → Prop) (w : World) (hd : Nat → Value) (n : Nat) (k : A → Option R) (r : R) (s : Sem Value) : Prop := ∃ z v, k z = some r ∧ RA ρ U w hd z v ∧ (∀ j ∈ z.refs, j < n) ∧ ∀ w', s.run P w' = .ok v w'
variable {R : Type} {n : Nat} {k : A → Option R} {r : R} {xt0 : TypeId}
theorem bin_int {op : BinOp} {p q : IntKind} {a b : Int} (h : intZ op p a q b k = some r) (xt : TypeId) (x y : Operand) : Yes P ρ U w hd n k r (do eqGuard op xt x y (.int p a) (.int q b); binOp op xt (.int p a) (.int q b)) := by
  unfold intZ at h
  cases op <;> simp only [] at h
  case add | sub | mul | and | or | xor | andNot =>
    split at h
    · rename_i e
      subst e
      refine ⟨_, _, h, ira_int _ _ _ _ _ _, by simp [A.refs], fun w' => ?_⟩
      simp [eqGuard, binOp, Op.intArith, Op.intBits, bitsZ, go_sem]
    · cases h
  case quo | rem =>
    split at h
    · rename_i e
      subst e
      split at h
      · cases h
      · rename_i hb
        refine ⟨_, _, h, ira_int _ _ _ _ _ _, by simp [A.refs], fun w' => ?_⟩
        simp [eqGuard, binOp, Op.intDiv, hb, go_sem]
    · cases h
  case eql | neq | lss | leq | gtr | geq =>
    split at h
    · rename_i e
      subst e
      refine ⟨_, _, h, ira_bool _ _ _ _ _, by simp [A.refs], fun w' => ?_⟩
      simp [eqGuard, binOp, Op.intCmp, go_sem]
    · cases h
  case shl | shr =>
    split at h
    · rename_i hb
      have hb' : ¬ b < 0 := by omega
      refine ⟨_, _, h, ira_int _ _ _ _ _ _, by simp [A.refs], fun w' => ?_⟩
      simp [eqGuard, binOp, Op.shift, hb', go_sem]
    · cases h
theorem bin_flt {op : BinOp} {a b : Nat} (h : fltZ op a b k = some r) (xt : TypeId) (x y : Operand) : Yes P ρ U w hd n k r (do eqGuard op xt x y (.float .f64 a) (.float .f64 b); binOp op xt (.float .f64 a) (.float .f64 b)) := by
  unfold fltZ at h
  cases op <;> simp only [] at h
  case quo =>
    split at h
    · rename_i z hz
      refine ⟨_, _, h, ira_flt _ _ _ _ _, by simp [A.refs], fun w' => ?_⟩
      simp [eqGuard, binOp, Op.floatArith, hz, go_sem]
    · cases h
  case eql | neq | lss | geq =>
    refine ⟨_, _, h, ira_bool _ _ _ _ _, by simp [A.refs], fun w' => ?_⟩
    simp [eqGuard, binOp, Op.floatCmp, go_sem]
  all_goals cases h
theorem eq_yes {op : BinOp} {b : Bool} (h : eqZ op b k = some r) {xt : TypeId} {x y : Operand} {u v : Value} (hb : ∀ w', (Op.equal xt u v).run P w' = .ok b w') (hg : ∀ w', (eqGuard op xt x y u v).run P w' = .ok () w')
    (h1 : op = .eql → binOp op xt u v = do pure (.bool (← Op.equal xt u v))) (h2 : op = .neq → binOp op xt u v = do pure (.bool (!(← Op.equal xt u v)))) : Yes P ρ U w hd n k r (do eqGuard op xt x y u v; binOp op xt u v) := by
  unfold eqZ at h
  cases op <;> simp only [] at h
  case eql =>
    refine ⟨_, _, h, ira_bool _ _ _ _ _, by simp [A.refs], fun w' => ?_⟩
    simp [h1 rfl, hb, hg, go_sem]
  case neq =>
    refine ⟨_, _, h, ira_bool _ _ _ _ _, by simp [A.refs], fun w' => ?_⟩
    simp [h2 rfl, hb, hg, go_sem]
  all_goals cases h
theorem eq_bool {d : Nat} {xt : TypeId} (h3 : P.underlying xt = some .bool) (a b : Bool) (w' : World) : (Op.equalIn (d + 1) xt (.bool a) (.bool b)).run P w' = .ok (a == b) w' := by
  simp [Op.equalIn, underlying, h3, go_sem]
theorem eq_ptr_nil {d : Nat} {xt e : TypeId} (h3 : P.underlying xt = some (.pointer e)) (a : Option Addr) (w' : World) : (Op.equalIn (d + 1) xt (.pointer a) (.pointer none)).run P w' = .ok a.isNone w' := by
  cases a <;> simp [Op.equalIn, underlying, h3, go_sem]
theorem eq_ptr (h : ∃ e, P.underlying xt0 = some (.pointer e)) {op : BinOp} {b : Bool} {a : Option Addr} (hb : a.isNone = b) (h1 : eqZ op b k = some r) (x y : Operand) : Yes P ρ U w hd n k r (do eqGuard op xt0 x y (.pointer a) (.pointer none); binOp op xt0 (.pointer a) (.pointer none)) := by
  obtain ⟨e, h3⟩ := h
  refine eq_yes h1 (fun w' => ?_) (fun w' => ?_) (fun e => by subst e; rfl) (fun e => by subst e; rfl)
  · rw [← hb]
    exact eq_ptr_nil (d := 9999) h3 a w'
  · unfold eqGuard
    split <;> simp [go_sem]
theorem bin_yes (ok : TabOk P tab) {op : BinOp} {xt : TypeId} {x y : A} {u v : Value} (h : binZ tab op xt x y k = some r) (hx : RA ρ U w hd x u) (hy : RA ρ U w hd y v) (ox oy : Operand) : Yes P ρ U w hd n k r (do eqGuard op xt ox oy u v; binOp op xt u v) := by
  unfold binZ at h
  split at h
  · have e1 := IRd.int hx
    have e2 := IRd.int hy
    subst e1 e2
    exact bin_int h xt ox oy
  · have e1 := IRd.bool hx
    have e2 := IRd.bool hy
    subst e1 e2
    split at h
    · rename_i hf
      have h2 := ok.und _ _ hf
      simp only [UndOk] at h2
      have h3 : P.underlying xt = some .bool := by
        rcases h2 with ⟨_, h3, _⟩ | ⟨_, h3⟩ | ⟨h3, _⟩
        · cases h3
        · exact h3
        · cases h3
      refine eq_yes h (fun w' => ?_) (fun w' => ?_) (fun e => by subst e; rfl) (fun e => by subst e; rfl)
      · exact eq_bool (d := 9999) h3 _ _ w'
      · unfold eqGuard
        split <;> simp [go_sem]
    · cases h
  · have e1 := IRd.flt hx
    have e2 := IRd.flt hy
    subst e1 e2
    exact bin_flt h xt ox oy
  · have e2 : v = .pointer none := hy
    subst e2
    split at h
    · rename_i hf
      obtain ⟨_, hp⟩ := ok.und _ _ hf
      rcases IRd.obj hx with ⟨rfl, rfl⟩ | ⟨y, a, rfl, rfl⟩
      · exact eq_ptr hp rfl h ox oy
      · exact eq_ptr hp rfl h ox oy
    · cases h
  · have e2 : v = .pointer none := hy
    subst e2
    split at h
    · rename_i hf
      obtain ⟨_, hp⟩ := ok.und _ _ hf
      rcases IRd.ptr hx with ⟨rfl, rfl⟩ | ⟨y, b, off, ds, rfl, rfl, _, _⟩
      · exact eq_ptr hp rfl h ox oy
      · exact eq_ptr hp rfl h ox oy
    · cases h
  · have e1 : u = .pointer none := hx
    have e2 : v = .pointer none := hy
    subst e1 e2
    split at h
    · rename_i hf
      obtain ⟨_, hp⟩ := ok.und _ _ hf
      exact eq_ptr hp rfl h ox oy
    · cases h
  · have e2 : v = .pointer none := hy
    obtain ⟨b, _, rfl⟩ := hx
    subst e2
    split at h
    · rename_i hf
      obtain ⟨_, hp⟩ := ok.und _ _ hf
      exact eq_ptr hp rfl h ox oy
    · cases h
  · cases h
theorem un_yes {op : UnOp} {x : A} {u : Value} (h : unZ op x k = some r) (hx : RA ρ U w hd x u) : Yes P ρ U w hd n k r (Op.unary op u) := by
  unfold unZ at h
  split at h
  · have e1 := IRd.int hx
    subst e1
    refine ⟨_, _, h, ira_int _ _ _ _ _ _, by simp [A.refs], fun w' => ?_⟩
    simp [Op.unary, Op.intArith, go_sem]
  · have e1 := IRd.bool hx
    subst e1
    refine ⟨_, _, h, ira_bool _ _ _ _ _, by simp [A.refs], fun w' => ?_⟩
    simp [Op.unary, go_sem]
  · cases h
theorem und_some (ok : TabOk P tab) {id : TypeId} {i : TI} (h : tab.find id = some i) : ∃ d, P.underlying id = some d := by
  have h2 := ok.und id i h
  cases hu : i.u with
  | sc => rw [hu] at h2; rcases h2 with ⟨_, _, h⟩ | ⟨_, h⟩ | ⟨_, h⟩ <;> exact ⟨_, h⟩
  | ptr => rw [hu] at h2; obtain ⟨_, _, h⟩ := h2; exact ⟨_, h⟩
  | sl e => rw [hu] at h2; exact ⟨_, h2.1⟩
  | st fs => rw [hu] at h2; obtain ⟨_, _, h, _⟩ := h2; exact ⟨_, h⟩
theorem conv_yes (ok : TabOk P tab) {src dst : TypeId} {x : A} {u : Value} (h : convZ tab src dst x k = some r) (hx : RA ρ U w hd x u) : Yes P ρ U w hd n k r (convert src dst u) := by
  unfold convZ at h
  split at h
  · rename_i hf hg
    have e1 := IRd.int hx
    subst e1
    obtain ⟨d, hd1⟩ := und_some ok hf
    have h2 := ok.und _ _ hg
    simp only [UndOk] at h2
    rcases h2 with ⟨q, e3, h4⟩ | ⟨e3, _⟩ | ⟨e3, _⟩
    · cases e3
      refine ⟨_, _, h, ira_int _ _ _ _ _ _, by simp [A.refs], fun w' => ?_⟩
      simp [convert, underlying, hd1, h4, Conv.intToInt, go_sem]
    · cases e3
    · cases e3
  · rename_i hf hg
    have e1 := IRd.int hx
    subst e1
    obtain ⟨d, hd1⟩ := und_some ok hf
    have h2 := ok.und _ _ hg
    simp only [UndOk] at h2
    have h3 : P.underlying dst = some (.float .f64) := by
      rcases h2 with ⟨_, h3, h4⟩ | ⟨h3, _⟩ | ⟨_, h3⟩
      · cases h3
      · cases h3
      · exact h3
    refine ⟨_, _, h, ira_flt _ _ _ _ _, by simp [A.refs], fun w' => ?_⟩
    simp [convert, underlying, hd1, h3, Conv.intToFloat, go_sem]
  · cases h
theorem fld_ok (ok : TabOk P tab) {s : TypeId} {f o : Nat} {u : T} (h : fldZ tab s f = some (o, u)) : ∃ (fields : Array Field) (fd : Field) (j : TI), P.underlying s = some (.struct fields) ∧ fields[f]? = some fd ∧ fd.offset = o ∧ tab.find fd.type = some j ∧ j.t = u := by
  unfold fldZ at h
  split at h
  · rename_i fs _ hf
    obtain ⟨_, fields, h1, _, h2⟩ := ok.und _ _ hf
    split at h
    · rename_i o' ft hat
      split at h
      · rename_i hlt
        split at h
        · rename_i j hj
          cases h
          obtain ⟨fd, _, h3, h4, h5, _⟩ := h2 f hlt
          rw [hat] at h4 h5
          exact ⟨fields, fd, j, h1, h3, h4, by rw [h5]; exact hj, rfl⟩
        · cases h
      · cases h
  · cases h
theorem pack_one {t : T} (hp : t.isPair = false) (v : Value) : pack t [v] = v := by cases t <;> simp [T.isPair] at hp <;> rfl
theorem part_run (ok : TabOk P tab) {id : TypeId} {i : TI} (h : tab.find id = some i) {cs : List Value} {y : i.t.den} (o : Nat) (hy : ICs ρ U w i.t ((cs.drop o).take i.t.size) y) (w' : World) : (part id cs.toArray o).run P w' = .ok (pack i.t ((cs.drop o).take i.t.size)) w' := by
  have h1 := isAgg_run ok h w'
  have h2 := sizeOf_run ok h w'
  unfold part
  simp [go_sem]
  rw [h1]
  cases hp : i.t.isPair with
  | true =>
    simp [go_sem]
    rw [h2]
    simp [go_sem, pack_agg hp]
  | false =>
    have h1 := T.size_one _ hp
    rw [h1] at hy ⊢
    obtain ⟨v, hv, _⟩ := ICs.one hp hy
    have hc : cs[o]? = some v := by
      have : ((cs.drop o).take 1)[0]? = some v := by rw [hv]; rfl
      simpa [List.getElem?_take, List.getElem?_drop] using this
    rw [hv, pack_one hp]
    simp [hc, go_sem]
theorem field_yes (ok : TabOk P tab) {s : TypeId} {x : A} {u : Value} {f : Nat} (h : fieldZ tab s x f k = some r) (hx : RA ρ U w hd x u) : Yes P ρ U w hd n k r (Instr.field s u f) := by
  unfold fieldZ at h
  split at h
  · rename_i o u' a b y hf
    split at h
    · rename_i z hz
      obtain ⟨fields, fd, j, h1, h2, rfl, h4, rfl⟩ := fld_ok ok hf
      obtain ⟨cs, rfl, hc⟩ := hx
      obtain ⟨k1, k2⟩ := ICs.sub _ hc hz
      refine ⟨_, _, h, ⟨_, rfl, k1⟩, by simp [A.refs], fun w' => ?_⟩
      have hpr := part_run ok h4 fd.offset k1 w'
      generalize pack j.t (List.take j.t.size (List.drop fd.offset cs)) = rv at hpr ⊢
      simpa [Instr.field, pack, asAgg, underlying, h1, h2, go_sem] using hpr
    · cases h
  · cases h
/-- Where a field lies. -/
theorem place_run (ok : TabOk P tab) {fd : Field} {j : TI} (h : tab.find fd.type = some j) (b o : Nat) (w' : World) : (fieldPlace ⟨b, o, none⟩ fd).run P w' = .ok ⟨b, o + fd.offset, none⟩ w' := by
  have h2 := sizeOf_run ok h w'
  have h3 := T.size_pos j.t
  unfold fieldPlace
  simp [go_sem]
  rw [h2]
  have h4 : ¬ j.t.size = 0 := by omega
  simp [go_sem, h4, Addr.add]
theorem fieldAddr_yes (ok : TabOk P tab) {s : TypeId} {x : A} {u : Value} {f : Nat} (h : fieldAddrZ tab s x f k = some r) (hx : RA ρ U w hd x u) (hr : ∀ j ∈ x.refs, j < n) : Yes P ρ U w hd n k r (Instr.fieldAt s u f) := by
  have go : ∀ {fields : Array Field} {fd : Field} {j : TI} {b o : Nat}, P.underlying s = some (.struct fields) → fields[f]? = some fd → tab.find fd.type = some j → ∀ w', (Instr.fieldAt s (.pointer (some ⟨b, o, none⟩)) f).run P w' = .ok (.pointer (some ⟨b, o + fd.offset, none⟩)) w' := by
    intro fields fd j b o h1 h2 h4 w'
    have h5 := sizeOf_run ok h4 w'
    have h6 := T.size_pos j.t
    have h7 : ¬ j.t.size = 0 := by omega
    simp [Instr.fieldAt, underlying, h1, h2, Instr.sureAddr, go_sem]
    rw [h5]
    simp [go_sem, h7]
  unfold fieldAddrZ at h
  split at h
  · rename_i o u' t y hf
    split at h
    · rename_i z hz
      obtain ⟨fields, fd, j, h1, h2, rfl, h4, rfl⟩ := fld_ok ok hf
      obtain ⟨b, off, cs, rfl, hc, hcell⟩ := hx
      obtain ⟨k1, k2⟩ := ICs.sub _ hc hz
      refine ⟨_, _, h, ⟨b, off + fd.offset, _, rfl, k1, fun w' hw' i hi => ?_⟩, by simp [A.refs], go h1 h2 h4⟩
      rw [List.getElem?_take, if_pos hi, List.getElem?_drop, ← hcell w' hw' (fd.offset + i) (by omega), Nat.add_assoc]
    · cases h
  · rename_i o u' t y hf
    split at h
    · rename_i hs
      split at h
      · rename_i z hz
        obtain ⟨fields, fd, j, h1, h2, rfl, h4, rfl⟩ := fld_ok ok hf
        rcases IRd.ptr hx with ⟨rfl, _⟩ | ⟨y, b, off, cs, rfl, rfl, hc, hcell⟩
        · cases hs
        · obtain ⟨k1, k2⟩ := ICs.sub _ hc hz
          refine ⟨_, _, h, ⟨b, off + fd.offset, _, rfl, k1, fun w' hw' i hi => ?_⟩, by simp [A.refs], go h1 h2 h4⟩
          rw [List.getElem?_take, if_pos hi, List.getElem?_drop, ← hcell w' hw' (fd.offset + i) (by omega), Nat.add_assoc]
      · cases h
    · cases h
  · rename_i o u' i j c s' t hf
    obtain ⟨fields, fd, j', h1, h2, rfl, h4, rfl⟩ := fld_ok ok hf
    obtain ⟨b, l, c', e1, e2, rfl⟩ := hx
    exact ⟨_, _, h, ⟨b, l, c', e1, e2, by rw [Nat.add_assoc]⟩, by simpa [A.refs] using hr, go h1 h2 h4⟩
  · rename_i o u' i c hf
    obtain ⟨fields, fd, j', h1, h2, rfl, h4, rfl⟩ := fld_ok ok hf
    obtain ⟨b, e1, rfl⟩ := hx
    exact ⟨_, _, h, ⟨b, e1, rfl⟩, by simpa [A.refs] using hr, go h1 h2 h4⟩
  · cases h
theorem elem_ok (ok : TabOk P tab) {t e : TypeId} {i : TI} (h : elemZ tab t = some (e, i)) : P.underlying t = some (.slice e) ∧ tab.find e = some i := by
  unfold elemZ at h
  split at h
  · rename_i hf
    obtain ⟨h1, j, h2, h3⟩ := ok.und _ _ hf
    split at h
    · rename_i i' hi
      cases h
      exact ⟨h1, hi⟩
    · cases h
  · cases h
theorem index_run (ok : TabOk P tab) {t e : TypeId} {i : TI} (h : elemZ tab t = some (e, i)) {b off len c : Nat} {p : IntKind} {m : Int} (h0 : 0 ≤ m) (h1 : m < len) (w' : World) :
    (Instr.indexAt t (.slice (some ⟨b, off, none⟩) len c) (.int p m)).run P w' = .ok (.pointer (some ⟨b, off + m.toNat * i.t.size, none⟩)) w' := by
  obtain ⟨h2, h3⟩ := elem_ok ok h
  have h4 := sizeOf_run ok h3 w'
  simp [Instr.indexAt, underlying, h2, asIntOf, go_sem, h0, h1]
  rw [h4]
  simp [go_sem, Addr.add]
/-- The elements of a list that is known for ever. -/
theorem ICs.at_ {t : T} {cs : List Value} {xs : List t.den} (h : ICs ρ U w (.list t) cs xs) {m : Nat} (hm : m < xs.length) : ∃ b off c ds, cs = [.slice (some ⟨b, off, none⟩) xs.length c] ∧ ICs ρ U w t ds (xs.getD m t.dflt) ∧ ∀ w', Ag U w w' → ∀ j, j < t.size → w'.cell? ⟨b, off + m * t.size + j, none⟩ = ds[j]? := by
  obtain ⟨A, c, ds, e1, h2, _, h3, h4⟩ := h
  obtain ⟨b, off, rfl, h5⟩ := h4 (by omega)
  have hget : xs.getD m t.dflt = xs[m] := by rw [List.getD_eq_getElem?_getD, List.getElem?_eq_getElem hm]; rfl
  have hl : ∀ c x, ICs ρ U w t c x → c.length = t.size := fun c x q => ICs.length q
  have hlen := Els.length hl h3
  have hle : m * t.size + t.size ≤ xs.length * t.size := by rw [← Nat.succ_mul]; exact Nat.mul_le_mul_right _ hm
  refine ⟨b, off, c, (ds.drop (m * t.size)).take t.size, e1, ?_, fun w' hw' j hj => ?_⟩
  · rw [hget]
    exact Els.get hl h3 m hm
  · rw [List.getElem?_take, if_pos hj, List.getElem?_drop, ← h5 w' hw' (m * t.size + j) (by omega), Nat.add_assoc]
/-- The header of a row of n elements. -/
def Hdr (v : Value) (n : Nat) : Prop := (v = .slice none 0 0 ∧ n = 0) ∨ ∃ g cap, v = .slice (some ⟨g, 0, none⟩) n cap ∧ n ≤ cap
theorem own_hdr {B sz m : Nat} {e : TypeId} {v : Value} {cs : List Value} (h : w.ownsRow B e sz v m cs) : Hdr v m ∧ m ≤ maxLen := by
  obtain ⟨_, ⟨rfl, rfl⟩ | ⟨g, cap, cur, rfl, _, _, h1, h2, _⟩⟩ := h
  · exact ⟨.inl ⟨rfl, rfl⟩, Nat.zero_le _⟩
  · exact ⟨.inr ⟨g, cap, rfl, h1⟩, Nat.le_trans h1 h2⟩
def Hdrs (ob : List Ob) (hd : Nat → Value) : Prop := ∀ i e t xs, atn .gone ob i = .row e t xs → Hdr (hd i) xs.length
theorem idx_le {m : Int} {n : Nat} (h0 : 0 ≤ m) (h1 : m ≤ n) : m.toNat ≤ n := by omega
theorem idx_le2 {l h : Int} {n c : Nat} (h0 : 0 ≤ l) (h1 : l ≤ h) (h2 : h ≤ n) (h3 : n ≤ c) : l.toNat ≤ h.toNat ∧ h.toNat ≤ n ∧ 0 ≤ h ∧ h ≤ c := by omega
theorem idx_le2' {l h : Int} (h0 : 0 ≤ l) (h1 : l ≤ h) : l ≤ (h.toNat : Int) := by omega
theorem idx_le3 {l h : Int} (h0 : 0 ≤ l) (h1 : l ≤ h) : l.toNat ≤ h.toNat := by omega
theorem le_cast {l : Int} {n : Nat} (h0 : 0 ≤ l) (h1 : l.toNat ≤ n) : l ≤ (n : Int) := by omega
theorem Hdr.form {v : Value} {n : Nat} (h : Hdr v n) : ∃ a c, v = .slice a n c ∧ n ≤ c := by
  rcases h with ⟨rfl, rfl⟩ | ⟨g, c, rfl, h⟩
  · exact ⟨none, 0, rfl, Nat.le_refl _⟩
  · exact ⟨_, c, rfl, h⟩
theorem idx_lt {m : Int} {n : Nat} (h0 : 0 ≤ m) (h1 : m < n) : m.toNat < n := by omega
theorem indexAddr_yes (ok : TabOk P tab) {ob : List Ob} {t : TypeId} {x i : A} {u v : Value} (h : indexAddrZ tab ob t x i k = some r) (hx : RA ρ U w hd x u) (hi : RA ρ U w hd i v) (hh : Hdrs ob hd) (hr : ∀ j ∈ x.refs, j < n) : Yes P ρ U w hd n k r (Instr.indexAt t u v) := by
  unfold indexAddrZ at h
  split at h
  · rename_i e' i' u' xs p m he
    split at h
    · rename_i hu
      subst hu
      split at h
      · rename_i h0
        replace h0 : (0 : Int) ≤ m := h0
        split at h
        · rename_i h1
          replace h1 : (m : Int) < (xs.length : Int) := h1
          obtain ⟨cs, rfl, hc⟩ := hx
          have e2 := IRd.int hi
          subst e2
          obtain ⟨b, off, c, ds, rfl, k1, k2⟩ := ICs.at_ hc (m := m.toNat) (idx_lt h0 h1)
          refine ⟨_, _, h, ⟨b, _, ds, rfl, k1, k2⟩, by simp [A.refs], fun w' => ?_⟩
          exact index_run ok he h0 h1 w'
        · cases h
      · cases h
    · cases h
  · rename_i e' i' m' p m he
    split at h
    · rename_i e2 u' xs hat
      split at h
      · rename_i hu
        subst hu
        split at h
        · rename_i h0
          replace h0 : (0 : Int) ≤ m := h0
          split at h
          · rename_i h1
            replace h1 : (m : Int) < ((xs.length : Nat) : Int) := h1
            have e2 := IRd.int hi
            subst e2
            have e3 : u = hd m' := hx
            subst e3
            rcases hh _ _ _ _ hat with ⟨_, h2⟩ | ⟨g, cap, h2, h3⟩
            · have := idx_lt h0 h1; omega
            · refine ⟨_, _, h, ⟨g, _, cap, h2, idx_lt h0 h1, rfl⟩, by simpa [A.refs] using hr, fun w' => ?_⟩
              rw [h2, index_run ok he h0 h1 w', Nat.zero_add, Nat.add_zero]
          · cases h
        · cases h
      · cases h
    · cases h
  · rename_i e' i' m' c' fl p m he
    split at h
    · rename_i e2 u' xs hat
      split at h
      · rename_i hu
        subst hu
        split at h
        · rename_i h0
          replace h0 : (0 : Int) ≤ m := h0
          split at h
          · rename_i h1
            replace h1 : (m : Int) < ((c' : Nat) : Int) := h1
            have e2 := IRd.int hi
            subst e2
            obtain ⟨a, l, c, c'', e3, e4, rfl, _, _⟩ := hx
            rcases hh _ _ _ _ hat with ⟨h2, _⟩ | ⟨g, cap, h2, h3⟩
            · rw [e3] at h2; injection h2 with _ q _; have := idx_lt h0 h1; omega
            · rw [e3] at h2
              injection h2 with q1 q2 q3
              subst q1
              refine ⟨_, _, h, ⟨g, l, c, e3, by have := idx_lt h0 h1; omega, rfl⟩, by simpa [A.refs] using hr, fun w' => ?_⟩
              rw [index_run ok he h0 h1 w', Nat.zero_add, Nat.add_zero]
          · cases h
        · cases h
      · cases h
    · cases h
  · cases h
theorem slice_all (ok : TabOk P tab) {t e : TypeId} {i : TI} (h : elemZ tab t = some (e, i)) (A : Option Addr) (len c : Nat) {lo hi : Option (IntKind × Int)} (mx : Option (IntKind × Int)) (l hh m : Nat)
    (hm : match mx with | some (p, z) => 0 ≤ z ∧ z ≤ c ∧ m = z.toNat ∧ hi.isSome = true | none => m = c)
    (h1 : match hi with | some (p, z) => 0 ≤ z ∧ z ≤ m ∧ hh = z.toNat | none => hh = len) (h2 : match lo with | some (p, z) => 0 ≤ z ∧ z ≤ hh ∧ l = z.toNat | none => l = 0) (w' : World) :
    (Instr.sliceAt t (.slice A len c) (lo.map fun q => .int q.1 q.2) (hi.map fun q => .int q.1 q.2) (mx.map fun q => .int q.1 q.2)).run P w' = .ok (.slice (if m = l then A else A.map (·.add (l * i.t.size))) (hh - l) (m - l)) w' := by
  obtain ⟨h3, h4⟩ := elem_ok ok h
  have h5 := sizeOf_run ok h4 w'
  cases mx with
  | none =>
    simp only at hm
    subst hm
    cases hi with
    | none =>
      simp only at h1
      subst h1
      cases lo with
      | none => simp only at h2; subst h2; simp [Instr.sliceAt, Instr.slice, underlying, h3, Instr.sliceBounds, go_sem]; rw [h5]; simp [go_sem]
      | some q =>
        obtain ⟨q1, q2, rfl⟩ := h2
        simp [Instr.sliceAt, Instr.slice, underlying, h3, Instr.sliceBounds, Instr.sliceBound, asIntOf, go_sem, q1, q2]; rw [h5]; simp [go_sem]
    | some q' =>
      obtain ⟨p1, p2, rfl⟩ := h1
      cases lo with
      | none => simp only at h2; subst h2; simp [Instr.sliceAt, Instr.slice, underlying, h3, Instr.sliceBounds, Instr.sliceBound, asIntOf, go_sem, p1, p2]; rw [h5]; simp [go_sem]
      | some q =>
        obtain ⟨q1, q2, rfl⟩ := h2
        have q2' : q.2 ≤ q'.2 := by omega
        have z1 : max q'.2 0 = q'.2 := by omega
        simp [Instr.sliceAt, Instr.slice, underlying, h3, Instr.sliceBounds, Instr.sliceBound, asIntOf, go_sem, p1, p2, q1, z1, q2', Int.not_lt.2 q2']; rw [h5]; simp [go_sem]
  | some q0 =>
    obtain ⟨o1, o2, rfl, o3⟩ := hm
    cases hi with
    | none => simp at o3
    | some q' =>
      obtain ⟨p1, p2, rfl⟩ := h1
      have p2' : q'.2 ≤ q0.2 := by omega
      cases lo with
      | none =>
        simp only at h2
        subst h2
        have z2 : max q0.2 0 = q0.2 := by omega
        simp [Instr.sliceAt, Instr.slice, underlying, h3, Instr.sliceBounds, Instr.sliceBound, asIntOf, go_sem, o1, o2, p1, z2, p2', Int.not_lt.2 p2']; rw [h5]; simp [go_sem]
      | some q =>
        obtain ⟨q1, q2, rfl⟩ := h2
        have q2' : q.2 ≤ q'.2 := by omega
        have z1 : max q'.2 0 = q'.2 := by omega
        have z2 : max q0.2 0 = q0.2 := by omega
        simp [Instr.sliceAt, Instr.slice, underlying, h3, Instr.sliceBounds, Instr.sliceBound, asIntOf, go_sem, o1, o2, p1, z1, z2, p2', q1, q2', Int.not_lt.2 q2', Int.not_lt.2 p2']; rw [h5]; simp [go_sem]
/-- A part of a list that is known for ever. -/
theorem cut_list {t : T} {A : Option Addr} {c l hh : Nat} {xs : List t.den} (h : ICs ρ U w (.list t) [.slice A xs.length c] xs) (hl : l ≤ hh) (hn : hh ≤ xs.length) :
    ICs ρ U w (.list t) [.slice (if c = l then A else A.map (·.add (l * t.size))) (hh - l) (c - l)] ((xs.take hh).drop l) := by
  obtain ⟨A', c', ds, e1, h2, hc, h3, h4⟩ := h
  injection e1 with e1
  injection e1 with e1 _ e2
  subst e1 e2
  have hz : ∀ c x, ICs ρ U w t c x → c.length = t.size := fun c x q => ICs.length q
  have hlen := Els.length hz h3
  have h5 : ((xs.take hh).drop l).length = hh - l := by rw [List.length_drop, List.length_take]; omega
  have hsz : hh * t.size ≤ xs.length * t.size := Nat.mul_le_mul_right _ hn
  have hsl : l * t.size ≤ hh * t.size := Nat.mul_le_mul_right _ hl
  refine ⟨_, _, (ds.take (hh * t.size)).drop (l * t.size), by rw [h5], by rw [h5]; omega, by rw [h5]; omega, Els.drop hz (Els.take hz h3 hh) l, fun hp => ?_⟩
  rw [h5] at hp
  obtain ⟨b, off, rfl, h6⟩ := h4 (by omega)
  refine ⟨b, off + l * t.size, ?_, fun w' hw' j hj => ?_⟩
  · rw [if_neg (by omega)]
    simp [Addr.add]
  · rw [List.length_drop, List.length_take] at hj
    rw [List.getElem?_drop, List.getElem?_take, if_pos (by omega), ← h6 w' hw' (l * t.size + j) (by omega), Nat.add_assoc]
theorem slice_yes (ok : TabOk P tab) {ob : List Ob} {t : TypeId} {x : A} {lo hi mx : Option A} {u : Value} {vlo vhi vmx : Option Value} (h : sliceZ tab ob t x lo hi mx k = some r) (hx : RA ρ U w hd x u)
    (hlo : ∀ y, lo = some y → ∃ v, vlo = some v ∧ RA ρ U w hd y v) (hlo' : lo = none → vlo = none) (hhi : ∀ y, hi = some y → ∃ v, vhi = some v ∧ RA ρ U w hd y v) (hhi' : hi = none → vhi = none)
    (hmx : ∀ y, mx = some y → ∃ v, vmx = some v ∧ RA ρ U w hd y v) (hmx' : mx = none → vmx = none) (hh : Hdrs ob hd) (hr : ∀ j ∈ x.refs, j < n) : Yes P ρ U w hd n k r (Instr.sliceAt t u vlo vhi vmx) := by
  unfold sliceZ at h
  split at h
  · rename_i e' i' u' xs p l he
    obtain ⟨v, rfl, hv⟩ := hlo _ rfl
    have e2 := IRd.int hv
    subst e2
    rw [hhi' rfl, hmx' rfl]
    split at h
    · rename_i hu
      subst hu
      split at h
      · rename_i h0
        split at h
        · rename_i h1
          obtain ⟨cs, rfl, hc⟩ := hx
          obtain ⟨A0, c, ds, rfl, h2, h3, _⟩ := id hc
          have hl : l.toNat ≤ xs.length := idx_le h0 h1
          have k1 := cut_list hc hl (Nat.le_refl _)
          rw [List.take_length] at k1
          refine ⟨_, _, h, ⟨_, rfl, k1⟩, by simp [A.refs], fun w' => ?_⟩
          exact slice_all ok he A0 xs.length c (lo := some (p, l)) (hi := none) none l.toNat xs.length c rfl rfl ⟨h0, h1, rfl⟩ w'
        · cases h
      · cases h
    · cases h
  · rename_i e' i' u' xs p l he
    obtain ⟨v, rfl, hv⟩ := hhi _ rfl
    have e2 := IRd.int hv
    subst e2
    rw [hlo' rfl, hmx' rfl]
    split at h
    · rename_i hu
      subst hu
      split at h
      · rename_i h0
        split at h
        · rename_i h1
          obtain ⟨cs, rfl, hc⟩ := hx
          obtain ⟨A0, c, ds, rfl, h2, h3, _⟩ := id hc
          have hl : l.toNat ≤ xs.length := idx_le h0 h1
          have k1 := cut_list hc (Nat.zero_le _) hl
          refine ⟨_, _, h, ⟨_, rfl, k1⟩, by simp [A.refs], fun w' => ?_⟩
          exact slice_all ok he A0 xs.length c (lo := none) (hi := some (p, l)) none 0 l.toNat c rfl ⟨h0, by have := idx_le h0 h1; omega, rfl⟩ rfl w'
        · cases h
      · cases h
    · cases h
  · rename_i e' i' u' xs p l p2 l2 he
    obtain ⟨v, rfl, hv⟩ := hlo _ rfl
    obtain ⟨v2, rfl, hv2⟩ := hhi _ rfl
    have e2 := IRd.int hv
    have e3 := IRd.int hv2
    subst e2 e3
    rw [hmx' rfl]
    split at h
    · rename_i hu
      subst hu
      split at h
      · rename_i h0
        split at h
        · rename_i h1
          split at h
          · rename_i h2
            obtain ⟨cs, rfl, hc⟩ := hx
            obtain ⟨A0, c, ds, rfl, h3, h4, _⟩ := id hc
            obtain ⟨q1, q2, q3, q4⟩ := idx_le2 h0 h1 h2 h4
            have k1 := cut_list hc q1 q2
            refine ⟨_, _, h, ⟨_, rfl, k1⟩, by simp [A.refs], fun w' => ?_⟩
            exact slice_all ok he A0 xs.length c (lo := some (p, l)) (hi := some (p2, l2)) none l.toNat l2.toNat c rfl ⟨q3, q4, rfl⟩ ⟨h0, by have := idx_le2' h0 h1; exact this, rfl⟩ w'
          · cases h
        · cases h
      · cases h
    · cases h
  · rename_i e' i' m p l he
    obtain ⟨v, rfl, hv⟩ := hhi _ rfl
    have e2 := IRd.int hv
    subst e2
    rw [hlo' rfl, hmx' rfl]
    have e1 : u = hd m := hx
    subst e1
    split at h
    · rename_i e2 u' xs hat
      split at h
      · rename_i hu
        subst hu
        split at h
        · rename_i h0
          split at h
          · rename_i h1
            have hl : l.toNat ≤ xs.length := idx_le h0 h1
            obtain ⟨a, c, q1, q2⟩ := (hh _ _ _ _ hat).form
            refine ⟨_, _, h, ⟨a, xs.length, c, c, q1, hl, rfl, by omega, fun _ => rfl⟩, by simpa [A.refs] using hr, fun w' => ?_⟩
            have := slice_all ok he a xs.length c (lo := none) (hi := some (p, l)) none 0 l.toNat c rfl ⟨h0, by have := idx_le h0 h1; exact le_cast h0 (by omega), rfl⟩ rfl w'
            rw [q1]
            simpa [Addr.add] using this
          · cases h
        · cases h
      · cases h
    · cases h
  · rename_i e' i' m p l p2 l2 he
    obtain ⟨v, rfl, hv⟩ := hhi _ rfl
    obtain ⟨v2, rfl, hv2⟩ := hmx _ rfl
    have e2 := IRd.int hv
    have e3 := IRd.int hv2
    subst e2 e3
    rw [hlo' rfl]
    have e1 : u = hd m := hx
    subst e1
    split at h
    · rename_i e2 u' xs hat
      split at h
      · rename_i hu
        subst hu
        split at h
        · rename_i h0
          split at h
          · rename_i h1
            split at h
            · rename_i h2
              obtain ⟨a, c, q1, q2⟩ := (hh _ _ _ _ hat).form
              obtain ⟨r1, r2, r3, r4⟩ := idx_le2 h0 h1 h2 q2
              refine ⟨_, _, h, ⟨a, xs.length, c, l2.toNat, q1, by omega, rfl, idx_le3 h0 h1, fun h => by cases h⟩, by simpa [A.refs] using hr, fun w' => ?_⟩
              have := slice_all ok he a xs.length c (lo := none) (hi := some (p, l)) (some (p2, l2)) 0 l.toNat l2.toNat ⟨r3, r4, rfl, rfl⟩ ⟨h0, idx_le2' h0 h1, rfl⟩ rfl w'
              rw [q1]
              simpa [Addr.add] using this
            · cases h
          · cases h
        · cases h
      · cases h
    · cases h
  · rename_i e' i' m nn p l he
    obtain ⟨v, rfl, hv⟩ := hhi _ rfl
    have e2 := IRd.int hv
    subst e2
    rw [hlo' rfl, hmx' rfl]
    obtain ⟨a0, l0, c0, c1, q0, q3, rfl, q5, q4⟩ := hx
    have := q4 rfl
    subst this
    split at h
    · rename_i e2 u' xs hat
      split at h
      · rename_i hu
        subst hu
        split at h
        · rename_i h0
          split at h
          · rename_i h1
            have hl : l.toNat ≤ xs.length := idx_le h0 h1
            obtain ⟨a, c, q1, q2⟩ := (hh _ _ _ _ hat).form
            rw [q0] at q1
            injection q1 with r1 r2 r3
            subst r1 r2 r3
            refine ⟨_, _, h, ⟨a0, xs.length, c1, c1, q0, hl, rfl, by omega, fun _ => rfl⟩, by simpa [A.refs] using hr, fun w' => ?_⟩
            have := slice_all ok he a0 nn c1 (lo := none) (hi := some (p, l)) none 0 l.toNat c1 rfl ⟨h0, le_cast h0 (by omega), rfl⟩ rfl w'
            simpa [Addr.add] using this
          · cases h
        · cases h
      · cases h
    · cases h
  · cases h
theorem extract_yes : ∀ {x : A} {i : Nat} {u : Value}, extractZ x i k = some r → RA ρ U w hd x u → (∀ j ∈ x.refs, j < n) → Yes P ρ U w hd n k r (Instr.extract u i)
  | .tcons a b, 0, u, h, ⟨x, xs, e, h1, _⟩, hr => ⟨_, _, h, h1, fun j hj => hr j (by simp [A.refs, hj]), fun w' => by subst e; simp [Instr.extract, go_sem]⟩
  | .tcons a b, i + 1, u, h, ⟨x, xs, e, _, h2⟩, hr => by
    subst e
    obtain ⟨z, v, h3, h4, h5, h6⟩ := extract_yes (x := b) (i := i) h h2 (fun j hj => hr j (by simp [A.refs, hj]))
    refine ⟨z, v, h3, h4, h5, fun w' => ?_⟩
    have := h6 w'
    simpa [Instr.extract, go_sem] using this
  | .un, _, _, h, _, _ => by cases h
  | .und, _, _, h, _, _ => by cases h
  | .v _ _, _, _, h, _, _ => by cases h
  | .nls, _, _, h, _, _ => by cases h
  | .nlp, _, _, h, _, _ => by cases h
  | .row _, _, _, h, _, _ => by cases h
  | .cut _ _ _, _, _, h, _, _ => by cases h
  | .adr _ _ _ _ _, _, _, h, _, _ => by cases h
  | .ref _ _, _, _, h, _, _ => by cases h
  | .box _ _, _, _, h, _, _ => by cases h
  | .tnil, _, _, h, _, _ => by cases h
  | .str _, _, _, h, _, _ => by cases h
theorem len_run (ok : TabOk P tab) {ob : List Ob} {x : A} {u : Value} {kk : Nat → Option R} (h : lenZ ob x kk = some r) (hx : RA ρ U w hd x u) (hh : Hdrs ob hd) : ∃ m a c, kk m = some r ∧ u = .slice a m c := by
  unfold lenZ at h
  split at h
  · obtain ⟨A, c, e, _⟩ := IRd.list hx
    exact ⟨_, A, c, h, e⟩
  · exact ⟨0, none, 0, h, hx⟩
  · split at h
    · rename_i hat
      obtain ⟨a, c, e, _⟩ := (hh _ _ _ _ hat).form
      exact ⟨_, a, c, h, by rw [← e]; exact hx⟩
    · cases h
  · obtain ⟨a, l, c, c', _, _, e, _, _⟩ := hx
    exact ⟨_, a, c', h, e⟩
  · cases h
def All2 {α β : Type} (Q : α → β → Prop) : List α → List β → Prop
  | [], [] => True
  | a :: l, b :: m => Q a b ∧ All2 Q l m
  | _, _ => False
theorem best_yes (big : Bool) (p : IntKind) {l : List A} : ∀ {x : Int} {vs : List Value}, bestZ big x l p k = some r → All2 (RA ρ U w hd) l vs → Yes P ρ U w hd n k r (vs.foldlM (if big then Builtin.max2 else Builtin.min2) (.int p x)) := by
  induction l with
  | nil =>
    intro x vs h hl
    cases vs with
    | cons _ _ => exact hl.elim
    | nil => exact ⟨_, _, h, ira_int _ _ _ _ _ _, by simp [A.refs], fun w' => by simp [go_sem]⟩
  | cons a l ih =>
    intro x vs h hl
    cases vs with
    | nil => exact hl.elim
    | cons v vs =>
      obtain ⟨hx, hl⟩ := hl
      unfold bestZ at h
      split at h
      · rename_i heq
        cases heq
      · rename_i heq
        injection heq with e1 e2
        subst e1 e2
        have e3 := IRd.int hx
        subst e3
        obtain ⟨z, v', h3, h4, h5, h6⟩ := ih h hl
        refine ⟨z, v', h3, h4, h5, fun w' => ?_⟩
        have := h6 w'
        cases big <;> simpa [List.foldlM_cons, Builtin.max2, Builtin.min2, go_sem] using this
      · cases h
theorem all2_map {st : St} {ev' : Operand → Value} (he : ∀ x, RA ρ U w hd (ev st x) (ev' x)) : ∀ l : List Operand, All2 (RA ρ U w hd) (l.map (ev st)) (l.map ev')
  | [] => trivial
  | x :: l => ⟨he x, all2_map he l⟩
theorem Yes.next {s : Sem Value} {f : Sem Next} (h : Yes P ρ U w hd n k r s) (hf : f = do pure (.value (← s))) : ∃ z v, k z = some r ∧ RA ρ U w hd z v ∧ (∀ j ∈ z.refs, j < n) ∧ ∀ w', f.run P w' = .ok (.value v) w' := by
  obtain ⟨z, v, h1, h2, h3, h4⟩ := h
  refine ⟨z, v, h1, h2, h3, fun w' => ?_⟩
  rw [hf]
  simp [h4 w', go_sem]
theorem builtin_yes (ok : TabOk P tab) {st : St} {ev' : Operand → Value} {b : Builtin} {xs : Array Operand} {ts : Array TypeId} {ty : TypeId} (h : builtinZ tab st b ts.toList (xs.toList.map (ev st)) k = some r) (he : ∀ x, RA ρ U w hd (ev st x) (ev' x)) (hh : Hdrs st.ob hd) :
    ∃ z v, k z = some r ∧ RA ρ U w hd z v ∧ (∀ j ∈ z.refs, j < n) ∧ ∀ w', (do let d ← resolve ev' ⟨.builtin b, xs, ts⟩ ty; invoke d.target d.args : Sem Next).run P w' = .ok (.value v) w' := by
  have ha := all2_map he xs.toList
  obtain ⟨xs⟩ := xs
  obtain ⟨ts⟩ := ts
  simp only at h ha
  generalize xs.map (ev st) = ys at h ha
  unfold builtinZ at h
  split at h
  · rename_i x
    split at h
    · rename_i t ts'
      split at h
      · rename_i ei hei
        obtain ⟨e, i⟩ := ei
        obtain ⟨h1, h2⟩ := elem_ok ok hei
        cases xs with
        | nil => exact ha.elim
        | cons o l =>
          cases l with
          | cons _ _ => exact ha.2.elim
          | nil =>
            obtain ⟨m, A0, c, h3, h4⟩ := len_run ok h ha.1 hh
            refine ⟨_, _, h3, ira_int _ _ _ _ _ _, by simp [A.refs], fun w' => ?_⟩
            simp [resolve, invoke, builtin, Builtin.len_, underlying, h1, h4, goInt, go_sem]
      · cases h
    · cases h
  · rename_i p x l
    cases xs with
    | nil => exact ha.elim
    | cons o l' =>
      have e1 := IRd.int ha.1
      refine Yes.next (best_yes true p h ha.2) ?_
      simp [resolve, invoke, builtin, Builtin.max_, e1, go_sem]
  · rename_i p x l
    cases xs with
    | nil => exact ha.elim
    | cons o l' =>
      have e1 := IRd.int ha.1
      refine Yes.next (best_yes false p h ha.2) ?_
      simp [resolve, invoke, builtin, Builtin.min_, e1, go_sem]
  · cases h
theorem toV0 {u : T} {x : A} {v : Value} {y : u.den} (h : A.toV [] u x = some y) (hx : RA ρ U w hd x v) : IRd ρ U w u v y := by
  unfold A.toV at h
  split at h
  · split at h
    · rename_i e
      subst e
      cases h
      exact hx
    · cases h
  · split at h
    · cases h
      exact ⟨[.slice none 0 0], hx, none, 0, [], rfl, Nat.zero_le _, Nat.le_refl _, rfl, fun h => absurd h (by simp)⟩
    · cases h
  · split at h
    · cases h
      exact ⟨[.pointer none], hx, _, rfl, rfl⟩
    · cases h
      exact ⟨[.pointer none], hx, _, rfl, rfl⟩
    · cases h
  · simp [atn] at h
  · simp [atn] at h
  · cases h
theorem mapM_run {α β : Type} {f : α → Sem β} {g : α → β} : ∀ (l : List α) (w' : World), (∀ x ∈ l, (f x).run P w' = .ok (g x) w') → (l.mapM f).run P w' = .ok (l.map g) w'
  | [], w', _ => by simp [go_sem]
  | x :: l, w', h => by
    have h1 := h x (by simp)
    have h2 := mapM_run l w' (fun y hy => h y (by simp [hy]))
    simp [List.mapM_cons, h1, h2, go_sem]
theorem fold_set (off : Nat) : ∀ (ds : List Value) (j : Nat) (cs : List Value), off + j + ds.length ≤ cs.length →
    (List.foldl (fun (a : Array Value) (p : Value × Nat) => a.setIfInBounds (off + p.2) p.1) cs.toArray (ds.zipIdx j)) = (cs.take (off + j) ++ ds ++ cs.drop (off + j + ds.length)).toArray
  | [], j, cs, h => by simp
  | d :: ds, j, cs, h => by
    simp only [List.length_cons] at h
    have h1 : off + j < cs.length := by omega
    rw [List.zipIdx_cons, List.foldl_cons]
    have h2 : (cs.toArray.setIfInBounds (off + j) d) = (cs.set (off + j) d).toArray := by simp
    simp only
    rw [h2, fold_set off ds (j + 1) (cs.set (off + j) d) (by rw [List.length_set]; omega)]
    congr 1
    rw [show off + (j + 1) = (off + j) + 1 by omega, List.length_cons, List.take_succ_eq_append_getElem (by rw [List.length_set]; omega), List.getElem_set_self, List.take_set_of_le (Nat.le_refl _), List.drop_set_of_lt (by omega)]
    simp only [List.append_assoc, List.cons_append, List.nil_append]
    rw [show off + j + 1 + ds.length = off + j + (ds.length + 1) by omega]
theorem fill_ok {place : Nat → Option (Nat × Nat)} {cells : List Value} {i : Nat} {v : Value} {rest : List (Nat × Value)} {off : Nat} {ds : List Value} (hp : place i = some (off, ds.length)) (hv : v.cells = ds.toArray) (hl : off + ds.length ≤ cells.length) :
    Instr.fill place cells.toArray ((i, v) :: rest) = Instr.fill place (cells.take off ++ ds ++ cells.drop (off + ds.length)).toArray rest := by
  rw [Instr.fill]
  simp only [hp, hv]
  rw [if_neg (by simp; omega)]
  congr 1
  have := fold_set off ds 0 cells (by omega)
  simpa using this
theorem build_all (ok : TabOk P tab) {st : St} {ev' : Operand → Value} (he : ∀ x, RA ρ U w hd (ev st x) (ev' x)) {s : TypeId} {t : T} {place : Nat → Option (Nat × Nat)} (hp : ∀ f o u, fldZ tab s f = some (o, u) → place f = some (o, u.size)) :
    ∀ (l : List (Nat × Operand)) {x y : t.den} {cs : List Value}, buildZ tab st s t l x = some y → ICs ρ U w t cs x → ∃ ds, Instr.fill place cs.toArray (l.map fun p => (p.1, ev' p.2)) = some ds.toArray ∧ ICs ρ U w t ds y
  | [], x, y, cs, h, hc => by cases h; exact ⟨cs, rfl, hc⟩
  | (f, o) :: l, x, y, cs, h, hc => by
    unfold buildZ at h
    split at h
    · rename_i off u hf
      split at h
      · rename_i z hz
        split at h
        · rename_i x' hx'
          obtain ⟨es, e1, e2⟩ := toV0 hz (he o)
          obtain ⟨k1, k2⟩ := ICs.upd u e2 hc hx'
          have hl := ICs.length hc
          have hu := ICs.length e2
          obtain ⟨ds, h3, h4⟩ := build_all ok he hp l h k1
          refine ⟨ds, ?_, h4⟩
          rw [← h3, List.map_cons]
          rw [← hu]
          exact fill_ok (by rw [hp f off u hf, hu]) (by rw [e1]; exact pack_cs e2) (by omega)
        · cases h
      · cases h
    · cases h
theorem zero_ics : ∀ t : T, ICs ρ U w t (zeroC t) t.dflt
  | .int _ => rfl
  | .bool => rfl
  | .flt => rfl
  | .list _ => ⟨none, 0, [], rfl, Nat.zero_le _, Nat.le_refl _, rfl, fun h => absurd h (by simp [T.dflt])⟩
  | .pair a b => ⟨_, _, rfl, zero_ics a, zero_ics b⟩
  | .obj _ => ⟨_, rfl, rfl⟩
  | .ptr _ => ⟨_, rfl, rfl⟩
  | .one t => zero_ics t
theorem build_yes (ok : TabOk P tab) {st : St} {ev' : Operand → Value} (he : ∀ x, RA ρ U w hd (ev st x) (ev' x)) {s : TypeId} {t : T} {fs : List (Nat × TypeId)} {by' : Nat} {parts : Array (Nat × Operand)} {y : t.den} (hf : tab.find s = some ⟨t, .st fs, by'⟩) (hb : buildZ tab st s t parts.toList t.dflt = some y) (h : k (.v t y) = some r) :
    Yes P ρ U w hd n k r (Instr.build s (parts.map fun (i, x) => (i, ev' x))) := by
  obtain ⟨hp, fields, h1, h2, h3⟩ := ok.und _ _ hf
  simp only at hp
  obtain ⟨inf, i1, _, _, _, i5⟩ := ok.info _ _ hf
  have hsz : ∀ f : Field, f ∈ fields.toList → ∃ j, tab.find f.type = some j := fun f hm => by
    obtain ⟨q, hq, e⟩ := List.getElem_of_mem hm
    have hq' : q < fields.size := by simpa using hq
    obtain ⟨f', j, g1, _, _, g4⟩ := h3 q (by omega)
    have : f' = f := by
      rw [Array.getElem?_eq_getElem hq'] at g1
      injection g1 with g1
      rw [← g1, ← e]
      simp
    subst this
    exact ⟨j, g4⟩
  let sz : TypeId → Nat := fun id => match tab.find id with
    | some j => j.t.size
    | none => 0
  have hpl : ∀ w', (fields.mapM fun f => do pure (f.offset, ← sizeOf f.type) : Sem (Array (Nat × Nat))).run P w' = .ok (fields.map fun f => (f.offset, sz f.type)) w' := fun w' => by
    rw [Array.mapM_eq_mapM_toList]
    have := mapM_run (P := P) (f := fun f : Field => (do pure (f.offset, ← sizeOf f.type) : Sem (Nat × Nat))) (g := fun f => (f.offset, sz f.type)) fields.toList w' (fun f hm => by
      obtain ⟨j, hj⟩ := hsz f hm
      have := sizeOf_run ok hj w'
      simp only [sz, hj]
      simp [go_sem]
      rw [this]
      simp [go_sem])
    rw [map_eq_pure_bind]
    generalize hg : List.mapM (m := Sem) (fun f : Field => (do pure (f.offset, ← sizeOf f.type) : Sem (Nat × Nat))) fields.toList = g0 at this
    have e : (g0 >>= fun a => pure a.toArray : Sem _).run P w' = .ok (List.map (fun f : Field => (f.offset, sz f.type)) fields.toList).toArray w' := by
      simp [this, go_sem]
    rw [← Array.toList_map, Array.toArray_toList] at e
    simpa using e
  obtain ⟨ds, q1, q2⟩ := build_all ok he (place := fun q => (fields.map fun f => (f.offset, sz f.type))[q]?) (fun f o u hfo => by
    obtain ⟨fields', fd, j, g1, g2, g3, g4, g5⟩ := fld_ok ok hfo
    rw [h1] at g1
    cases g1
    simp only [Array.getElem?_map, g2, Option.map_some, g3, sz, g4, g5]) parts.toList hb (zero_ics t)
  refine ⟨_, .agg ds.toArray, h, ⟨ds, (pack_agg hp ds).symm, q2⟩, by simp [A.refs], fun w' => ?_⟩
  have h5 := hpl w'
  have hz : (zeroValue s).run P w' = .ok (.agg (zeroC t).toArray) w' := by simp [zeroValue, typeInfo, i1, i5, pack_agg hp, go_sem]
  unfold Instr.build
  rw [Sem.run_bind, hz, Result.andThen_ok, Sem.run_bind, run_underlying h1, Result.andThen_ok]
  simp only
  rw [Sem.run_bind, h5, Result.andThen_ok]
  simp only [Value.cells]
  have e6 : (parts.map fun (i, x) => (i, ev' x)).toList = parts.toList.map fun p => (p.1, ev' p.2) := by simp
  rw [e6, q1]
  simp [go_sem]
theorem one_cells : ∀ {v : Value}, v.oneCell' = true → v.cells = #[v]
  | .bool _, _ => rfl
  | .int _ _, _ => rfl
  | .float _ _, _ => rfl
  | .complex _ _ _, _ => rfl
  | .string _, _ => rfl
  | .pointer _, _ => rfl
  | .slice _ _ _, _ => rfl
  | .map _, _ => rfl
  | .chan _, _ => rfl
  | .func _ _ _, _ => rfl
  | .nilFunc, _ => rfl
  | .iface _ _, _ => rfl
  | .nilIface, _ => rfl
  | .agg _, h => by simp [Value.oneCell'] at h
  | .tuple _, _ => rfl
theorem oneB_cell {x : A} {v : Value} (h : x.oneB = true) (hx : RA ρ U w hd x v) (hh : ∀ i, x = .row i → v.oneCell' = true) : v.oneCell' = true := by
  cases x with
  | v t y =>
    cases hp : t.isPair with
    | true => cases t <;> simp [T.isPair] at hp <;> simp [A.oneB] at h
    | false =>
      obtain ⟨cs, rfl, hc⟩ := hx
      obtain ⟨u, rfl, _, h3⟩ := ICs.one hp hc
      rw [pack_one hp]
      exact h3
  | nls => rw [show v = _ from hx]; rfl
  | nlp => rw [show v = _ from hx]; rfl
  | row i =>
    exact hh i rfl
  | cut i n f => obtain ⟨_, _, _, _, _, _, e, _⟩ := hx; rw [e]; rfl
  | adr i j k s t => obtain ⟨_, _, _, _, _, e⟩ := hx; rw [e]; rfl
  | ref t y => obtain ⟨_, _, _, e, _⟩ := hx; rw [e]; rfl
  | box i k => obtain ⟨_, _, e⟩ := hx; rw [e]; rfl
  | _ => simp [A.oneB] at h
theorem cellB_cell {ob : List Ob} (hh : Hdrs ob hd) {x : A} {v : Value} (h : cellB ob x = true) (hx : RA ρ U w hd x v) : v.oneCell' = true := by
  cases x with
  | row i =>
    simp only [cellB] at h
    split at h
    · rename_i e t xs hat
      obtain ⟨a1, c1, e3, _⟩ := (hh i e t xs hat).form
      rw [show v = hd i from hx, e3]
      rfl
    · cases h
  | _ => refine oneB_cell ?_ hx (fun i e => by cases e); exact h
theorem str_all (ok : TabOk P tab) {st : St} {ev' : Operand → Value} (he : ∀ x, RA ρ U w hd (ev st x) (ev' x)) (hh : Hdrs st.ob hd) {s : TypeId} {place : Nat → Option (Nat × Nat)} (hp : ∀ f o u, fldZ tab s f = some (o, u) → place f = some (o, u.size)) :
    ∀ (l : List (Nat × Operand)) (m : Nat) {a : A} (pre post : List Value), strZ tab st s m l = some a → pre.length = m → post.length = l.length → ∃ vs, Instr.fill place (pre ++ post).toArray (l.map fun p => (p.1, ev' p.2)) = some (pre ++ vs).toArray ∧ (∀ x ∈ vs, x.oneCell' = true) ∧ RA ρ U w hd a (.tuple vs.toArray)
  | [], m, a, pre, post, h, _, hl => by
    cases h
    have : post = [] := List.eq_nil_of_length_eq_zero (by simpa using hl)
    subst this
    exact ⟨[], rfl, by simp, rfl⟩
  | (f, y) :: l, m, a, pre, post, h, hm, hl => by
    simp only [strZ] at h
    split at h
    · rename_i o u hf
      split at h
      · rename_i hc
        obtain ⟨rfl, rfl, hu, hone⟩ := hc
        split at h
        · rename_i a' ha
          cases h
          have h1 := cellB_cell hh hone (he y)
          cases post with
          | nil => simp at hl
          | cons z post =>
            have hsz := T.size_one _ hu
            obtain ⟨vs, q1, q2, q3⟩ := str_all ok he hh hp l (o + 1) (pre ++ [ev' y]) post ha (by simp [hm]) (by simpa using hl)
            refine ⟨ev' y :: vs, ?_, ?_, _, _, rfl, he y, q3⟩
            · rw [List.map_cons, fill_ok (ds := [ev' y]) (off := o) (by rw [hp _ _ _ hf, hsz]; rfl) (one_cells h1) (by simp; omega), ← hm, List.take_left' rfl]
              have e1 : (pre ++ z :: post).drop (pre.length + [ev' y].length) = post := by
                rw [← List.drop_drop, List.drop_left' rfl]; rfl
              rw [e1, q1, List.append_assoc]
              rfl
            · intro x hx
              rcases List.mem_cons.1 hx with rfl | hx
              · exact h1
              · exact q2 x hx
        · cases h
      · cases h
    · cases h
theorem strZ_refs {st : St} {s : TypeId} (hr : ∀ x, ∀ j ∈ (ev st x).refs, j < n) : ∀ (l : List (Nat × Operand)) (m : Nat) {a : A}, strZ tab st s m l = some a → ∀ j ∈ a.refs, j < n
  | [], m, a, h, j, hj => by cases h; simp [A.refs] at hj
  | (f, y) :: l, m, a, h, j, hj => by
    simp only [strZ] at h
    split at h
    · split at h
      · split at h
        · rename_i a' ha
          cases h
          simp only [A.refs, List.mem_append] at hj
          rcases hj with hj | hj
          · exact hr y j hj
          · exact strZ_refs hr l _ ha j hj
        · cases h
      · cases h
    · cases h
theorem str_yes (ok : TabOk P tab) {st : St} {ev' : Operand → Value} (he : ∀ x, RA ρ U w hd (ev st x) (ev' x)) (hh : Hdrs st.ob hd) (hr : ∀ x, ∀ j ∈ (ev st x).refs, j < n) {s : TypeId} {t : T} {fs : List (Nat × TypeId)} {by' : Nat} {parts : Array (Nat × Operand)} {a : A} (hf : tab.find s = some ⟨t, .st fs, by'⟩) (hb : strZ tab st s 0 parts.toList = some a) (hl : parts.toList.length = t.size) (h : k (.str a) = some r) :
    Yes P ρ U w hd n k r (Instr.build s (parts.map fun (i, x) => (i, ev' x))) := by
  obtain ⟨hp, fields, h1, h2, h3⟩ := ok.und _ _ hf
  simp only at hp
  obtain ⟨inf, i1, i2, _, _, i5⟩ := ok.info _ _ hf
  have hsz : ∀ f : Field, f ∈ fields.toList → ∃ j, tab.find f.type = some j := fun f hm => by
    obtain ⟨q, hq, e⟩ := List.getElem_of_mem hm
    have hq' : q < fields.size := by simpa using hq
    obtain ⟨f', j, g1, _, _, g4⟩ := h3 q (by omega)
    have : f' = f := by
      rw [Array.getElem?_eq_getElem hq'] at g1
      injection g1 with g1
      rw [← g1, ← e]
      simp
    subst this
    exact ⟨j, g4⟩
  let sz : TypeId → Nat := fun id => match tab.find id with
    | some j => j.t.size
    | none => 0
  have hpl : ∀ w', (fields.mapM fun f => do pure (f.offset, ← sizeOf f.type) : Sem (Array (Nat × Nat))).run P w' = .ok (fields.map fun f => (f.offset, sz f.type)) w' := fun w' => by
    rw [Array.mapM_eq_mapM_toList]
    have := mapM_run (P := P) (f := fun f : Field => (do pure (f.offset, ← sizeOf f.type) : Sem (Nat × Nat))) (g := fun f => (f.offset, sz f.type)) fields.toList w' (fun f hm => by
      obtain ⟨j, hj⟩ := hsz f hm
      have := sizeOf_run ok hj w'
      simp only [sz, hj]
      simp [go_sem]
      rw [this]
      simp [go_sem])
    rw [map_eq_pure_bind]
    generalize hg : List.mapM (m := Sem) (fun f : Field => (do pure (f.offset, ← sizeOf f.type) : Sem (Nat × Nat))) fields.toList = g0 at this
    have e : (g0 >>= fun a => pure a.toArray : Sem _).run P w' = .ok (List.map (fun f : Field => (f.offset, sz f.type)) fields.toList).toArray w' := by
      simp [this, go_sem]
    rw [← Array.toList_map, Array.toArray_toList] at e
    simpa using e
  have hzl : (zeroC t).length = t.size := ICs.length (zero_ics (ρ := fun _ _ _ _ => True) (U := fun _ => True) (w := w) t)
  obtain ⟨vs, q1, q2, q3⟩ := str_all ok he hh (place := fun q => (fields.map fun f => (f.offset, sz f.type))[q]?) (fun f o u hfo => by
    obtain ⟨fields', fd, j, g1, g2, g3, g4, g5⟩ := fld_ok ok hfo
    rw [h1] at g1
    cases g1
    simp only [Array.getElem?_map, g2, Option.map_some, g3, sz, g4, g5]) parts.toList 0 [] (zeroC t) hb rfl (by rw [hzl, hl])
  refine ⟨_, .agg vs.toArray, h, ⟨vs, rfl, q2, q3⟩, fun j hj => strZ_refs hr parts.toList 0 hb j hj, fun w' => ?_⟩
  have h5 := hpl w'
  have hz : (zeroValue s).run P w' = .ok (.agg (zeroC t).toArray) w' := by simp [zeroValue, typeInfo, i1, i5, pack_agg hp, go_sem]
  unfold Instr.build
  rw [Sem.run_bind, hz, Result.andThen_ok, Sem.run_bind, run_underlying h1, Result.andThen_ok]
  simp only
  rw [Sem.run_bind, h5, Result.andThen_ok]
  simp only [Value.cells]
  have e6 : (parts.map fun (i, x) => (i, ev' x)).toList = parts.toList.map fun p => (p.1, ev' p.2) := by simp
  rw [List.nil_append] at q1
  rw [e6, q1]
  simp [go_sem]
theorem opt_some {lo : Option Operand} {st : St} {ev' : Operand → Value} (he : ∀ x, RA ρ U w hd (ev st x) (ev' x)) : (∀ y, lo.map (ev st) = some y → ∃ v, lo.map ev' = some v ∧ RA ρ U w hd y v) ∧ (lo.map (ev st) = none → lo.map ev' = none) := by
  cases lo with
  | none => exact ⟨fun y h => (by cases h), fun _ => rfl⟩
  | some o => exact ⟨fun y h => by cases h; exact ⟨_, rfl, he o⟩, fun h => by cases h⟩
/-- An operation that looks at no memory yields what the small machine says, in every world. -/
theorem pure_sound (ok : TabOk P tab) {st : St} {a : Act} {o : Oper} (h : pureZ tab st o.op k = some r) (he : ∀ x, RA ρ U w hd (ev st x) (a.eval x)) (hr : ∀ x, ∀ j ∈ (ev st x).refs, j < n) (hh : Hdrs st.ob hd) :
    ∃ z v, k z = some r ∧ RA ρ U w hd z v ∧ (∀ j ∈ z.refs, j < n) ∧ ∀ w', (execOp a.eval o).run P w' = .ok (.value v) w' := by
  obtain ⟨dst, op, type, pos, after, guard⟩ := o
  simp only at h
  generalize a.eval = ev' at he ⊢
  unfold pureZ at h
  split at h
  · rename_i x
    exact ⟨_, _, h, he x, hr x, fun w' => by simp [execOp, go_sem]⟩
  · rename_i x
    exact ⟨_, _, h, he x, hr x, fun w' => by simp [execOp, go_sem]⟩
  · rename_i c x y
    split at h
    · rename_i b hc
      have e1 : ev' c = .bool b := IRd.bool (hc ▸ he c)
      cases b with
      | true => exact ⟨_, _, by simpa using h, he x, hr x, fun w' => by simp [execOp, e1, asBool, go_sem]⟩
      | false => exact ⟨_, _, by simpa using h, he y, hr y, fun w' => by simp [execOp, e1, asBool, go_sem]⟩
    · cases h
  · exact Yes.next (bin_yes ok h (he _) (he _) _ _) rfl
  · exact Yes.next (un_yes h (he _)) rfl
  · exact Yes.next (conv_yes ok h (he _)) rfl
  · rename_i x
    split at h
    · rename_i i c hx
      obtain ⟨b, e1, e2⟩ := (hx ▸ he x : RA ρ U w hd (.box i c) (ev' x))
      exact ⟨_, _, h, ⟨b, e1, rfl⟩, by have := hr x; rw [hx] at this; exact this, fun w' => by simp [execOp, e2, go_sem]⟩
    · rename_i i j c s t hx
      obtain ⟨b, l, c', e1, e2, e3⟩ := (hx ▸ he x : RA ρ U w hd (.adr i j c s t) (ev' x))
      exact ⟨_, _, h, ⟨b, l, c', e1, e2, rfl⟩, by have := hr x; rw [hx] at this; exact this, fun w' => by simp [execOp, e3, go_sem]⟩
    · rename_i t y hx
      obtain ⟨b, off, cs, e1, e2, e3⟩ := (hx ▸ he x : RA ρ U w hd (.ref t y) (ev' x))
      exact ⟨_, _, h, ⟨b, off, cs, rfl, e2, e3⟩, by simp [A.refs], fun w' => by simp [execOp, e1, go_sem]⟩
    · rename_i m y hx
      have h1 : RA ρ U w hd (.v (.obj m) y) (ev' x) := hx ▸ he x
      split at h
      · rename_i hs
        rcases IRd.obj h1 with ⟨rfl, _⟩ | ⟨z, a', rfl, e⟩
        · cases hs
        · exact ⟨_, _, h, h1, by simp [A.refs], fun w' => by simp [execOp, e, go_sem]⟩
      · cases h
    · rename_i t y hx
      have h1 : RA ρ U w hd (.v (.ptr t) y) (ev' x) := hx ▸ he x
      split at h
      · rename_i hs
        rcases IRd.ptr h1 with ⟨rfl, _⟩ | ⟨z, b, off, ds, rfl, e, e2, e3⟩
        · cases hs
        · exact ⟨_, _, h, ⟨b, off, ds, rfl, e2, e3⟩, by simp [A.refs], fun w' => by simp [execOp, e, go_sem]⟩
      · cases h
    · cases h
  · exact Yes.next (fieldAddr_yes ok h (he _) (hr _)) rfl
  · exact Yes.next (field_yes ok h (he _)) rfl
  · exact Yes.next (indexAddr_yes ok h (he _) (he _) hh (hr _)) rfl
  · rename_i t x lo hi mx
    exact Yes.next (slice_yes ok h (he _) (opt_some he).1 (opt_some he).2 (opt_some he).1 (opt_some he).2 (opt_some he).1 (opt_some he).2 hh (hr _)) rfl
  · exact Yes.next (extract_yes h (he _) (hr _)) rfl
  · split at h
    · rename_i hf
      split at h
      · rename_i y hb
        exact Yes.next (build_yes ok he hf hb h) rfl
      · split at h
        · rename_i a hs
          split at h
          · rename_i hl
            exact Yes.next (str_yes ok he hh hr hf hs hl h) rfl
          · cases h
        · cases h
    · cases h
  · obtain ⟨z, v, h1, h2, h3, h4⟩ := builtin_yes (ty := type) ok h he hh
    exact ⟨z, v, h1, h2, h3, fun w' => h4 w'⟩
  · cases h
end
end Go.Proofs.Ythbojpaghbbnnaa.Z
