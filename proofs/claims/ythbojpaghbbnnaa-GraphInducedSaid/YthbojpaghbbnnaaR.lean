/- A statement whose order is open and whose last operation stores into a cell that it has read: what is read may be read first, as long as the facts it rests on hold behind every operation but that last one. Over any program; no condition. -/
import Derived.Test.YthbojpaghbbnnaaA
import Derived.OrdersHeld
import Derived.Deep.RegionHeld3
namespace Go.Proofs.Ythbojpaghbbnnaa
set_option linter.unusedVariables false
section
variable {P : Program} {ops : Array Oper} {Q : Exit → Act → World → Prop} {md : Region.Mode} {S : World → Prop} {s : Nat}

/-- Whatever comes up from here on; S holds behind every operation but number s. -/
def anyT (P : Program) (md : Region.Mode) (ops : Array Oper) (Q : Exit → Act → World → Prop) (S : World → Prop) (s : Nat) : Nat → Array Bool → Act → World → Prop
  | 0, l, a, w => Region.ready md ops l = [] ∧ Q .normal a w
  | f + 1, l, a, w => (Region.ready md ops l = [] → Q .normal a w) ∧
    ∀ i ∈ Region.ready md ops l, wpOp P ops Q i (fun a' w' => (i ≠ s → S w') ∧ anyT P md ops Q S s f (l.setIfInBounds i true) a' w') a w
theorem any_of_T : ∀ (f : Nat) (l : Array Bool) (a : Act) (w : World), anyT P md ops Q S s f l a w → wpAny P md ops Q f l a w
  | 0, _, _, _, h => h
  | f + 1, _, _, _, h => ⟨h.1, fun i hi => wpOp_mono (fun a' w' k => any_of_T f _ a' w' k.2) (h.2 i hi)⟩
theorem region_T {id : Nat} {a : Act} {w : World} (hm : P.follows .mixedOrders = true) (S : World → Prop) (s : Nat) (hS : S w.drew)
    (h : S w.drew → anyT P .any ops Q S s ops.size (Array.replicate ops.size false) a w.drew) : (Code.region id ops true).wp P Q a w :=
  wp_region_any hm (any_of_T _ _ _ _ (h hS))
theorem firstT {i : Nat} {oi : Oper} {v : Value} (hi : ops[i]? = some oi) (hsel : ∀ (j : Nat) (o : Oper) cs b, ops[j]? = some o → o.op ≠ .select cs b) (his : i ≠ s)
    (hwait : ∀ o, ops[s]? = some o → ∃ e ∈ o.after, Region.binds md e = true ∧ e.on = i)
    (hQ : ∀ c a w, Q (.panic c) (a.put oi.dst v) w → Q (.panic c) a w) :
    ∀ (f : Nat) (l : Array Bool) (a : Act) (w : World),
      (∀ j oj, ops[j]? = some oj → j ≠ i → l.getD j true = false → (∀ e ∈ oj.after, Region.binds md e = true → e.on ≠ i) → oi.apart ops oj = true) →
      i ∈ Region.ready md ops l → YieldsIf P ops S oi v a → S w →
      anyT P md ops Q S s f (l.setIfInBounds i true) (a.put oi.dst v) w → anyT P md ops Q S s (f + 1) l a w
  | f, l, a, w, hfree, hr, hy, hS, H => by
    refine ⟨fun h => (by rw [h] at hr; cases hr), fun j hj => ?_⟩
    by_cases hji : j = i
    · subst hji
      exact hy.wpOp hi hS ⟨fun _ => hS, H⟩
    · have hj' := ready_mono hj hji
      cases f with
      | zero => rw [H.1] at hj'; cases hj'
      | succ f =>
        obtain ⟨hjun, oj, hoj, hall⟩ := mem_ready.1 hj
        have hnot : ∀ e ∈ oj.after, Region.binds md e = true → e.on ≠ i := fun e he hb heq => by
          have h1 := hall e he hb
          have h0 := (mem_ready.1 hr).1
          rw [heq] at h1
          rcases Nat.lt_or_ge i l.size with h' | h'
          · simp [h'] at h0 h1
            rw [h0] at h1
            cases h1
          · simp [Array.getElem?_eq_none h'] at h1
        have hjs : j ≠ s := by
          intro e
          subst e
          obtain ⟨e, he, hb, hon⟩ := hwait oj hoj
          exact hnot e he hb hon
        have h2 := wpOp_putIf hoj (hfree j oj hoj hji hjun hnot) (fun cs b => hsel i oi cs b hi) (fun cs b => hsel j oj cs b hoj) hQ hy (H.2 j hj')
        refine wpOp_mono (fun a' w' k => ?_) h2
        obtain ⟨k1, k2, k3⟩ := k
        refine ⟨k2, firstT hi hsel his hwait hQ f (l.setIfInBounds j true) a' w' (fun x ox hx hxi hun hno => ?_) (ready_mono hr (Ne.symm hji)) k1 (k2 hjs) ?_⟩
        · refine hfree x ox hx hxi ?_ hno
          by_cases hjx : j = x
          · subst hjx; exact hjun
          · rw [getD_set_ne true hjx] at hun; exact hun
        · rw [Array.setIfInBounds_comm _ _ hji]
          exact k3
def waitsB (md : Region.Mode) (ops : Array Oper) (s i : Nat) : Bool :=
  match ops[s]? with
  | some o => o.after.any fun e => Region.binds md e && e.on == i
  | none => true
theorem waitsB_spec {i : Nat} (h : waitsB md ops s i = true) : ∀ o, ops[s]? = some o → ∃ e ∈ o.after, Region.binds md e = true ∧ e.on = i := by
  intro o ho
  unfold waitsB at h
  rw [ho] at h
  obtain ⟨e, he, hb⟩ := Array.any_eq_true'.1 h
  simp only [Bool.and_eq_true, beq_iff_eq] at hb
  exact ⟨e, he, hb.1, hb.2⟩
/-- Number i first: it may come up, it yields v wherever S holds, and number s waits for it. -/
theorem takeT {i : Nat} {oi : Oper} {v : Value} {f : Nat} {l : Array Bool} {a : Act} {w : World} {d : Tmp} (hi : ops[i]? = some oi) (hd : oi.dst = some d)
    (hB : (Region.noSelect ops && Region.free md ops l i && (Region.ready md ops l).contains i && waitsB md ops s i && !(i == s)) = true)
    (hQ : ∀ c a w, Q (.panic c) (a.put oi.dst v) w → Q (.panic c) a w) (hw : Region.wanted oi (yielded ops a.tmps) = true) (hy : ∀ w', S w' → (execOp a.eval oi).run P w' = .ok (.value v) w') (hS : S w)
    (h : anyT P md ops Q S s f (l.setIfInBounds i true) (a.put (some d) v) w) : anyT P md ops Q S s (f + 1) l a w := by
  rw [← hd] at h
  simp only [Bool.and_eq_true, Bool.not_eq_true', beq_eq_false_iff_ne] at hB
  obtain ⟨⟨⟨⟨h1, h2⟩, h3⟩, h4⟩, h5⟩ := hB
  exact firstT hi (Region.noSelect_spec h1) h5 (waitsB_spec h4) hQ f l a w (Region.free_spec hi h2) (by simpa using h3) (.inl ⟨hw, hy⟩) hS h
/-- The one that may come up. -/
theorem oneT {i : Nat} {oi : Oper} {f : Nat} {l : Array Bool} {a : Act} {w : World} (hi : ops[i]? = some oi) (hr : Region.ready md ops l = [i])
    (h : ∀ K : Act → World → Prop, Shut (∀ a' w', (i ≠ s → S w') → anyT P md ops Q S s f (l.setIfInBounds i true) a' w' → K a' w') → if Region.wanted oi (yielded ops a.tmps) = true then Oper.wp P oi a w K Q else K (a.put oi.dst undef) w) :
    anyT P md ops Q S s (f + 1) l a w := by
  refine ⟨fun h0 => (by rw [hr] at h0; cases h0), fun j hj => ?_⟩
  rw [hr] at hj
  have hji : j = i := by simpa using hj
  subst hji
  exact wpOp_step hi (fun K hK => h K (fun a' w' h1 h2 => hK a' w' ⟨h1, h2⟩))
theorem doneT {l : Array Bool} {a : Act} {w : World} (hr : Region.ready md ops l = []) (h : Q .normal a w) : ∀ f, anyT P md ops Q S s f l a w
  | 0 => ⟨hr, h⟩
  | _ + 1 => ⟨fun _ => h, by rw [hr]; simp⟩
end
end Go.Proofs.Ythbojpaghbbnnaa
