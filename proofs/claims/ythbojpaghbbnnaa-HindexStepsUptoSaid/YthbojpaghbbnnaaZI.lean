/- Every operation of the small machine is one of the real machine. Plain lemmas; no condition. -/
import Derived.Test.YthbojpaghbbnnaaZG
namespace Go.Proofs.Ythbojpaghbbnnaa.Z
open Go Go.RowKit
set_option linter.unusedVariables false
set_option linter.unusedSimpArgs false
section
variable {P : Program} {tab : Tab} {ρ : Obs} {U : Nat → Prop} {w : World} {hd : Nat → Value} {w0 : World} {U0 : Nat → Prop} {own : Nat} {hd0 : Nat → Value} {st : St} {a : Act}
/-- Some objects are other ones behind a step, and there are more. -/
theorem Rel.jump (H : Rel ρ w0 U0 own hd0 st a w hd) {w' : World} {os : List Nat} (hag : Ag (fun b => ∃ i ∈ os, blk (hd i) = some b) w w') (hos : ∀ i ∈ os, i < st.ob.length) {ob' : List Ob} {hd' : Nat → Value} (hlen : st.ob.length ≤ ob'.length) (hhd : ∀ i, i < st.ob.length → hd' i = hd i)
    (hsame : ∀ i, i < st.ob.length → i ∉ os → atn .gone ob' i = atn .gone st.ob i) (hnew : ∀ i, i < ob'.length → (i ∈ os ∨ st.ob.length ≤ i) → RO ρ (Us U0 ob'.length hd') w' hd' (if i < own then 0 else w0.heap.size) (atn .gone ob' i) (hd' i))
    (hfresh : ∀ i, st.ob.length ≤ i → i < ob'.length → ∀ b, blk (hd' i) = some b → w.heap.size ≤ b) (hdis : ∀ i j, st.ob.length ≤ i → i < ob'.length → st.ob.length ≤ j → j < ob'.length → i ≠ j → ∀ b, blk (hd' i) = some b → blk (hd' j) ≠ some b)
    (hrefs : ∀ i, (i ∈ os ∨ st.ob.length ≤ i) → ∀ j ∈ (atn .gone ob' i).refs, j < ob'.length) : Rel ρ w0 U0 own hd0 ⟨st.tm, ob'⟩ a w' hd' := by
  have hU : ∀ b, b < w.heap.size → Us U0 ob'.length hd' b → Us U0 st.ob.length hd b := by
    rintro b hb (hu | ⟨i, hi, hib⟩)
    · exact .inl hu
    · rcases Nat.lt_or_ge i st.ob.length with h1 | h1
      · exact .inr ⟨i, h1, by rw [← hhd i h1]; exact hib⟩
      · have := hfresh i h1 hi b hib
        omega
  have ht : Tr (Us U0 st.ob.length hd) w (Us U0 ob'.length hd') w' := Tr.of hag (fun b _ ⟨i, hi, hb⟩ => .inr ⟨i, hos i hi, hb⟩) hU
  refine ⟨H.sz, H.df, fun i v hv => RA.tr ht (fun j hj => hhd j (H.wt i j hj)) (H.sl i v hv), fun i hi => ?_, fun i j hi hj hij b hbi hbj => ?_, fun i hi => ?_, Nat.le_trans H.ow hlen, ?_, H.u0, fun i j hj => Nat.lt_of_lt_of_le (H.wt i j hj) hlen, fun i j hj => ?_⟩
  · by_cases hin : i ∈ os ∨ st.ob.length ≤ i
    · exact hnew i hi hin
    · have h1 : i < st.ob.length := Nat.lt_of_not_le (fun h => hin (.inr h))
      have h2 : i ∉ os := fun h => hin (.inl h)
      simp only
      rw [hsame i h1 h2, hhd i h1]
      exact RO.tr ht (fun j hj => hhd j (H.wo i j hj)) (fun b hb => hag.block b (H.lt h1 hb) (fun ⟨q, hq, hqb⟩ => H.ne i q h1 (hos q hq) (fun e => h2 (e ▸ hq)) b hb hqb)) (H.ob i h1)
  · rcases Nat.lt_or_ge i st.ob.length with h1 | h1
    · rcases Nat.lt_or_ge j st.ob.length with h2 | h2
      · rw [hhd i h1] at hbi
        rw [hhd j h2] at hbj
        exact H.ne i j h1 h2 hij b hbi hbj
      · rw [hhd i h1] at hbi
        have := hfresh j h2 hj b hbj
        have := H.lt h1 hbi
        omega
    · rcases Nat.lt_or_ge j st.ob.length with h2 | h2
      · rw [hhd j h2] at hbj
        have := hfresh i h1 hi b hbi
        have := H.lt h2 hbj
        omega
      · exact hdis i j h1 hi h2 hj hij b hbi hbj
  · rw [hhd i (Nat.lt_of_lt_of_le hi H.ow)]
    exact H.keep i hi
  · refine ⟨hag.os.trans H.ag.os, hag.tape.trans H.ag.tape, hag.output.trans H.ag.output, Nat.le_trans H.ag.size hag.size, fun b hb hn => ?_⟩
    refine (hag.block b (Nat.lt_of_lt_of_le hb H.ag.size) (fun ⟨q, hq, hqb⟩ => ?_)).trans (H.ag.block b hb hn)
    rcases Nat.lt_or_ge q own with h1 | h1
    · exact hn (.inr ⟨q, h1, by rw [← H.keep q h1]; exact hqb⟩)
    · have := H.ge (hos q hq) h1 hqb
      omega
  · by_cases hin : i ∈ os ∨ st.ob.length ≤ i
    · exact hrefs i hin j hj
    · have h1 : i < st.ob.length := Nat.lt_of_not_le (fun h => hin (.inr h))
      have h2 : i ∉ os := fun h => hin (.inl h)
      simp only at hj
      rw [hsame i h1 h2] at hj
      exact Nat.lt_of_lt_of_le (H.wo i j hj) hlen
def nOwn : List PM → Nat
  | [] => 0
  | .val _ :: l => nOwn l
  | .own _ _ :: l => nOwn l + 1
def dl : {a b : List T} → Ds (a ++ b) → Ds a
  | [], _, _ => ()
  | _ :: _, _, d => (d.1, dl d.2)
def dr : {a b : List T} → Ds (a ++ b) → Ds b
  | [], _, d => d
  | _ :: _, _, d => dr d.2
/-- The arguments of a call. -/
def ArgsOk (ρ : Obs) (U : Nat → Prop) (w : World) (hd : Nat → Value) : (ps : List PM) → Ds (ps.map PM.ty) → List Value → Nat → Prop
  | [], _, [], _ => True
  | .val t :: ps, d, v :: vs, n => IRd ρ U w t v d.1 ∧ ArgsOk ρ U w hd ps d.2 vs n
  | .own e t :: ps, d, v :: vs, n => v = hd n ∧ RO ρ U w hd 0 (.row e t d.1) v ∧ ArgsOk ρ U w hd ps d.2 vs (n + 1)
  | _, _, _, _ => False
/-- What a call leaves in the rows that it was handed. -/
def MutsOk (ρ : Obs) (U : Nat → Prop) (w : World) (hd : Nat → Value) : (ps : List PM) → Ds (muts ps) → Nat → Prop
  | [], _, _ => True
  | .val _ :: ps, d, n => MutsOk ρ U w hd ps d n
  | .own e t :: ps, d, n => RO ρ U w hd 0 (.row e t d.1) (hd n) ∧ MutsOk ρ U w hd ps d.2 (n + 1)
/-- The results of a call. -/
def RetsOk (ρ : Obs) (U : Nat → Prop) (w : World) (hd : Nat → Value) (B : Nat) : (rs : List PM) → Ds (rs.map PM.ty) → List Value → Nat → Prop
  | [], _, [], _ => True
  | .val t :: rs, d, v :: vs, n => IRd ρ U w t v d.1 ∧ RetsOk ρ U w hd B rs d.2 vs n
  | .own e t :: rs, d, v :: vs, n => v = hd n ∧ RO ρ U w hd B (.row e t d.1) v ∧ RetsOk ρ U w hd B rs d.2 vs (n + 1)
  | _, _, _, _ => False
def oneV : List Value → Value
  | [v] => v
  | l => .tuple l.toArray
/-- The blocks of the first n objects are pairwise other ones. -/
def Apart (n : Nat) (hd : Nat → Value) : Prop := ∀ i j, i < n → j < n → i ≠ j → ∀ b, blk (hd i) = some b → blk (hd j) ≠ some b
/-- A function of the program does what its plain function says. -/
def Sound (P : Program) (ρ : Obs) (f : FuncId) (s : Sig) : Prop := ∀ d : Ds (s.ps.map PM.ty), s.pre d = true → ∀ (w : World) (U0 : Nat → Prop) (hd0 : Nat → Value) (vs : List Value),
  (∀ b, U0 b → b < w.heap.size ∧ ∀ i, i < nOwn s.ps → blk (hd0 i) ≠ some b) → Apart (nOwn s.ps) hd0 → ArgsOk ρ (Us U0 (nOwn s.ps) hd0) w hd0 s.ps d vs 0 →
  Calls P f vs.toArray w fun e w' => ∃ rvs hd', e = .returned (oneV rvs) ∧ Ag (Us (fun _ => False) (nOwn s.ps) hd0) w w' ∧ (∀ i, i < nOwn s.ps → hd' i = hd0 i) ∧ Apart (nOwn s.ps + nOwn s.rs) hd' ∧
    MutsOk ρ (Us U0 (nOwn s.ps + nOwn s.rs) hd') w' hd' s.ps (dl (s.fn d)) 0 ∧ RetsOk ρ (Us U0 (nOwn s.ps + nOwn s.rs) hd') w' hd' w.heap.size s.rs (dr (s.fn d)) rvs (nOwn s.ps)
theorem ro_row {U U' : Nat → Prop} {w w' : World} {hd hd' : Nat → Value} {B B' : Nat} {e : TypeId} {t : T} {xs : List t.den} {v : Value} (h : RO ρ U w hd B (.row e t xs) v) (hb : ∀ b, blk v = some b → w'.heap[b]? = w.heap[b]? ∧ B' ≤ b) (k : Tr U w U' w' ∨ t.led = false) : RO ρ U' w' hd' B' (.row e t xs) v := by
  obtain ⟨cs, h1, h2⟩ := h
  refine ⟨cs, ?_, h2.mono (fun c x q => ?_)⟩
  · obtain ⟨g1, g2⟩ := h1
    refine ⟨g1, g2.imp id ?_⟩
    rintro ⟨g, cap, cur, e1, e2, e3, e4⟩
    have := hb g (by rw [e1]; rfl)
    exact ⟨g, cap, cur, e1, this.2, this.1.trans e3, e4⟩
  · rcases k with k | k
    · exact ICs.tr k q
    · exact ics_flat k q
theorem giveBack_ok {w' : World} {hdc : Nat → Value} : ∀ (ps : List PM) (xs : List A) {rs : List T} (d : Ds (muts ps ++ rs)) (ob : List Ob) {ob2 : List Ob} {r : Ds rs} (n : Nat), giveBack ps xs d ob = some (ob2, r) → (∀ i ∈ ownArgs ps xs, i < ob.length) → nodupB (ownArgs ps xs) = true →
    MutsOk ρ U w' hdc ps (dl d) n → r = dr d ∧ ob2.length = ob.length ∧ (ownArgs ps xs).length = nOwn ps ∧ (∀ i, i ∉ ownArgs ps xs → atn .gone ob2 i = atn .gone ob i) ∧
      (∀ q, q < (ownArgs ps xs).length → ∃ e t ys, (t.led = true → ownLed ps = true) ∧ atn .gone ob2 (atn 0 (ownArgs ps xs) q) = .row e t ys ∧ RO ρ U w' hdc 0 (.row e t ys) (hdc (n + q)))
  | [], xs, rs, d, ob, ob2, r, n, h, _, _, _ => by
    simp only [giveBack] at h
    injection h with h
    injection h with h1 h2
    subst h1 h2
    exact ⟨rfl, rfl, by cases xs <;> rfl, fun _ _ => rfl, fun q hq => by cases xs <;> simp [ownArgs] at hq⟩
  | .val t :: ps, [], rs, d, ob, ob2, r, n, h, _, _, _ => by simp [giveBack] at h
  | .val t :: ps, x :: xs, rs, d, ob, ob2, r, n, h, ho, hn, hm => by
    have e : ownArgs (.val t :: ps) (x :: xs) = ownArgs ps xs := by cases x <;> rfl
    rw [e] at ho hn ⊢
    simp only [giveBack] at h
    exact giveBack_ok ps xs d ob n h ho hn hm
  | .own e t :: ps, [], rs, d, ob, ob2, r, n, h, _, _, _ => by simp [giveBack] at h
  | .own e t :: ps, x :: xs, rs, d, ob, ob2, r, n, h, ho, hn, hm => by
    cases x with
    | row i =>
      simp only [giveBack] at h
      simp only [ownArgs, nodupB, Bool.and_eq_true, Bool.not_eq_true', List.contains_eq_mem] at hn
      have hi : i ∉ ownArgs ps xs := by simpa using hn.1
      obtain ⟨h1, h2, h3, h4, h5⟩ := giveBack_ok ps xs d.2 (setn (.row e t d.1) ob i) (n + 1) h (fun j hj => by rw [length_setn]; exact ho j (by simp [ownArgs, hj])) hn.2 hm.2
      refine ⟨h1, by rw [h2, length_setn], by simp [ownArgs, nOwn, h3], fun j hj => ?_, fun q hq => ?_⟩
      · simp only [ownArgs, List.mem_cons, not_or] at hj
        rw [h4 j hj.2, atn_setn, if_neg (fun hc => hj.1 hc.1.symm)]
      · cases q with
        | zero =>
          refine ⟨e, t, d.1, fun hl => by simp [ownLed, hl], ?_, hm.1⟩
          simp only [ownArgs, atn]
          rw [h4 i hi, atn_setn, if_pos ⟨rfl, ho i (by simp [ownArgs])⟩]
        | succ q =>
          obtain ⟨e', t', ys, q1, q2, q3⟩ := h5 q (by simpa [ownArgs] using hq)
          refine ⟨e', t', ys, fun hl => by simp [ownLed, q1 hl], by simpa [ownArgs, atn] using q2, ?_⟩
          rw [show n + (q + 1) = n + 1 + q by omega]
          exact q3
    | _ => simp [giveBack] at h
theorem resA_ok : ∀ (rs : List PM) (d : Ds (rs.map PM.ty)) (ob : List Ob), (resA rs d ob).2.length = ob.length + nOwn rs ∧ (∀ i, i < ob.length → atn .gone (resA rs d ob).2 i = atn .gone ob i)
  | [], _, ob => ⟨rfl, fun _ _ => rfl⟩
  | .val t :: rs, d, ob => resA_ok rs d.2 ob
  | .own e t :: rs, d, ob => by
    obtain ⟨h1, h2⟩ := resA_ok rs d.2 (ob ++ [.row e t d.1])
    refine ⟨by simp only [resA, nOwn]; rw [h1]; simp; omega, fun i hi => ?_⟩
    simp only [resA]
    rw [h2 i (by simp; omega), atn_append, if_pos hi]
/-- The results, seen by the caller. -/
theorem rets_ok {w' : World} {Uc Un : Nat → Prop} {hdc hdn : Nat → Value} {B B' : Nat} (hB : B' ≤ B) : ∀ (rs : List PM) (d : Ds (rs.map PM.ty)) (vs : List Value) (ob : List Ob) (n : Nat), (Tr Uc w' Un w' ∨ anyLed rs = false) → RetsOk ρ Uc w' hdc B rs d vs n → (∀ q, q < nOwn rs → hdn (ob.length + q) = hdc (n + q)) →
    All2 (RA ρ Un w' hdn) (resA rs d ob).1 vs ∧ (∀ x ∈ (resA rs d ob).1, ∀ j ∈ x.refs, j < (resA rs d ob).2.length) ∧ (∀ i, ob.length ≤ i → i < (resA rs d ob).2.length → RO ρ Un w' hdn B' (atn .gone (resA rs d ob).2 i) (hdn i) ∧ (atn .gone (resA rs d ob).2 i).refs = []) ∧ (∀ q, q < nOwn rs → ∀ b, blk (hdc (n + q)) = some b → B ≤ b)
  | [], d, [], ob, n, _, _, _ => by
    refine ⟨trivial, fun x hx => ?_, fun i h1 h2 => ?_, fun q hq => ?_⟩
    · simp [resA] at hx
    · simp only [resA] at h2; omega
    · simp [nOwn] at hq
  | [], d, _ :: _, ob, n, _, h, _ => h.elim
  | .val t :: rs, d, [], ob, n, _, h, _ => h.elim
  | .own e t :: rs, d, [], ob, n, _, h, _ => h.elim
  | .val t :: rs, d, v :: vs, ob, n, k, h, hh => by
    have k' : Tr Uc w' Un w' ∨ anyLed rs = false := k.imp id (fun h => by simp only [anyLed, Bool.or_eq_false_iff] at h; exact h.2)
    obtain ⟨h1, h2, h3, h4⟩ := rets_ok hB rs d.2 vs ob n k' h.2 hh
    refine ⟨⟨?_, h1⟩, fun x hx => ?_, h3, h4⟩
    · obtain ⟨cs, e, hc⟩ := h.1
      refine ⟨cs, e, ?_⟩
      rcases k with k | k
      · exact ICs.tr k hc
      · simp only [anyLed, Bool.or_eq_false_iff] at k
        exact ics_flat k.1 hc
    · simp only [resA, List.mem_cons] at hx
      rcases hx with rfl | hx
      · intro j hj; simp [A.refs] at hj
      · exact h2 x hx
  | .own e t :: rs, d, v :: vs, ob, n, k, h, hh => by
    have k' : Tr Uc w' Un w' ∨ anyLed rs = false := k.imp id (fun h => by simp only [anyLed, Bool.or_eq_false_iff] at h; exact h.2)
    obtain ⟨g1, g2, g3⟩ := h
    obtain ⟨h1, h2, h3, h4⟩ := rets_ok hB rs d.2 vs (ob ++ [.row e t d.1]) (n + 1) k' g3 (fun q hq => by
      have := hh (q + 1) (by simp [nOwn]; omega)
      rw [List.length_append, List.length_singleton, show ob.length + 1 + q = ob.length + (q + 1) by omega, show n + 1 + q = n + (q + 1) by omega]
      exact this)
    have hlen := (resA_ok rs d.2 (ob ++ [.row e t d.1])).1
    have hat := (resA_ok rs d.2 (ob ++ [.row e t d.1])).2
    rw [List.length_append, List.length_singleton] at h3 hlen hat
    have h0 : hdn ob.length = hdc n := hh 0 (by simp [nOwn])
    refine ⟨⟨by show v = hdn ob.length; rw [h0]; exact g1, h1⟩, fun x hx => ?_, fun i hi1 hi2 => ?_, fun q hq b hb => ?_⟩
    · simp only [resA, List.mem_cons] at hx
      rcases hx with rfl | hx
      · intro j hj
        simp only [A.refs, List.mem_singleton] at hj
        simp only [resA]
        omega
      · exact h2 x hx
    · rcases Nat.lt_or_ge i (ob.length + 1) with hi | hi
      · have : i = ob.length := by omega
        subst this
        have e1 : atn Ob.gone (resA (.own e t :: rs) d ob).2 ob.length = .row e t d.1 := by
          simp only [resA]
          rw [hat ob.length (by omega), atn_append, if_neg (by omega), Nat.sub_self]
          rfl
        rw [e1, h0, ← g1]
        refine ⟨ro_row g2 (fun b hb => ⟨rfl, Nat.le_trans hB (g2.blk_ge hb).1⟩) (k.imp id (fun h => by simp only [anyLed, Bool.or_eq_false_iff] at h; exact h.1)), rfl⟩
      · exact h3 i hi hi2
    · cases q with
      | zero => rw [Nat.add_zero, ← g1] at hb; exact (g2.blk_ge hb).1
      | succ q =>
        refine h4 q (by simp [nOwn] at hq; omega) b ?_
        rw [show n + 1 + q = n + (q + 1) by omega]
        exact hb
theorem atn_mem_of {l : List Nat} {q : Nat} (h : q < l.length) : atn 0 l q ∈ l := atn_mem 0 l q h
theorem atn_idx : ∀ {l : List Nat} {i : Nat}, i ∈ l → ∃ q, q < l.length ∧ atn 0 l q = i
  | x :: l, i, h => by
    rcases List.mem_cons.1 h with rfl | h
    · exact ⟨0, by simp, rfl⟩
    · obtain ⟨q, h1, h2⟩ := atn_idx h
      exact ⟨q + 1, by simpa using h1, h2⟩
theorem nodup_inj : ∀ {l : List Nat}, nodupB l = true → ∀ i j, i < l.length → j < l.length → atn 0 l i = atn 0 l j → i = j
  | [], _, i, j, hi, _, _ => by simp at hi
  | x :: l, h, i, j, hi, hj, e => by
    simp only [nodupB, Bool.and_eq_true, Bool.not_eq_true', List.contains_eq_mem] at h
    have hx : x ∉ l := by simpa using h.1
    cases i with
    | zero => cases j with
      | zero => rfl
      | succ j => exact absurd (show x ∈ l by simp only [atn] at e; rw [e]; exact atn_mem 0 l j (by simpa using hj)) hx
    | succ i => cases j with
      | zero => exact absurd (show x ∈ l by simp only [atn] at e; rw [← e]; exact atn_mem 0 l i (by simpa using hi)) hx
      | succ j => rw [nodup_inj h.2 i j (by simpa using hi) (by simpa using hj) e]
/-- The arguments of a call, out of the caller's state. -/
theorem args_ok (H : Rel ρ w0 U0 own hd0 st a w hd) {Uc : Nat → Prop} {hdc : Nat → Value} (hUc : ∀ b, b < w.heap.size → Uc b → Us U0 st.ob.length hd b) : ∀ (ps : List PM) (xs : List A) (vs : List Value) (d : Ds (ps.map PM.ty)) (n : Nat), args st.ob ps xs = some d → All2 (RA ρ (Us U0 st.ob.length hd) w hd) xs vs →
    (∀ q, q < (ownArgs ps xs).length → hdc (n + q) = hd (atn 0 (ownArgs ps xs) q)) → (∀ i ∈ valRows ps xs, ∀ b, blk (hd i) = some b → ¬ Uc b) → ArgsOk ρ Uc w hdc ps d vs n ∧ (∀ i ∈ ownArgs ps xs, i < st.ob.length)
  | [], [], [], d, n, _, _, _, _ => ⟨trivial, fun i hi => by cases hi⟩
  | [], [], _ :: _, _, _, _, h, _, _ => h.elim
  | [], _ :: _, _, _, _, h, _, _, _ => by simp [args] at h
  | .val t :: ps, [], vs, d, n, h, _, _, _ => by simp [args] at h
  | .own e t :: ps, [], vs, d, n, h, _, _, _ => by simp [args] at h
  | p :: ps, x :: xs, [], d, n, _, h, _, _ => h.elim
  | .val t :: ps, x :: xs, v :: vs, d, n, h, ha, hq, hv => by
    simp only [args] at h
    split at h
    · rename_i y ys hy hys
      cases h
      have e : ownArgs (.val t :: ps) (x :: xs) = ownArgs ps xs := by cases x <;> rfl
      rw [e] at hq ⊢
      have hv2 : ∀ i ∈ valRows ps xs, ∀ b, blk (hd i) = some b → ¬ Uc b := fun i hi => hv i (by cases x <;> simp [valRows, hi])
      obtain ⟨h1, h2⟩ := args_ok H hUc ps xs vs ys n hys ha.2 hq hv2
      exact ⟨⟨toV_ird H hy ha.1 hUc (fun i hi => hv i (by cases x <;> simp [A.rowOf] at hi <;> subst hi <;> simp [valRows])), h1⟩, h2⟩
    · cases h
  | .own e t :: ps, x :: xs, v :: vs, d, n, h, ha, hq, hv => by
    cases x with
    | row i =>
      simp only [args] at h
      split at h
      · rename_i e' u l hat
        split at h
        · rename_i hu
          obtain ⟨rfl, rfl⟩ := hu
          split at h
          · rename_i ys hys
            cases h
            have hi := row_lt hat
            have h0 := hq 0 (by simp [ownArgs])
            simp only [ownArgs, atn, Nat.add_zero] at h0
            obtain ⟨h1, h2⟩ := args_ok H hUc ps xs vs ys (n + 1) hys ha.2 (fun q hq' => by
              have := hq (q + 1) (by simpa [ownArgs] using hq')
              rw [show n + 1 + q = n + (q + 1) by omega]
              simpa [ownArgs, atn] using this) (fun j hj => hv j (by simpa [valRows] using hj))
            have hro := H.ob i hi
            rw [hat] at hro
            have ht : Tr (Us U0 st.ob.length hd) w Uc w := Tr.of (V := fun _ => False) (Ag.refl _ _) (fun _ _ h => h.elim) hUc
            have ev1 : v = hd i := ha.1
            refine ⟨⟨by rw [h0]; exact ev1, by rw [ev1]; exact ro_row hro (fun b hb => ⟨rfl, Nat.zero_le _⟩) (.inl ht), h1⟩, fun j hj => ?_⟩
            rcases List.mem_cons.1 hj with rfl | hj
            · exact hi
            · exact h2 j hj
          · cases h
        · cases h
      · cases h
    | _ => simp [args] at h
theorem one_tup {Un : Nat → Prop} {w' : World} {hdn : Nat → Value} : ∀ {l : List A} {vs : List Value}, All2 (RA ρ Un w' hdn) l vs → RA ρ Un w' hdn (tupA l) (.tuple vs.toArray)
  | [], [], _ => rfl
  | [], _ :: _, h => h.elim
  | _ :: _, [], h => h.elim
  | x :: l, v :: vs, h => ⟨v, vs, rfl, h.1, one_tup h.2⟩
theorem one_ra {Un : Nat → Prop} {w' : World} {hdn : Nat → Value} {l : List A} {vs : List Value} (h : All2 (RA ρ Un w' hdn) l vs) : RA ρ Un w' hdn (oneA l) (oneV vs) := by
  cases l with
  | nil => cases vs with
    | nil => rfl
    | cons _ _ => exact h.elim
  | cons x l => cases vs with
    | nil => exact h.elim
    | cons v vs => cases l with
      | nil => cases vs with
        | nil => exact h.1
        | cons _ _ => exact h.2.elim
      | cons y l => cases vs with
        | nil => exact h.2.elim
        | cons u vs => exact one_tup h
theorem one_refs {n : Nat} : ∀ {l : List A}, (∀ x ∈ l, ∀ j ∈ x.refs, j < n) → ∀ j ∈ (tupA l).refs, j < n
  | [], _, j, hj => by simp [tupA, A.refs] at hj
  | x :: l, h, j, hj => by
    simp only [tupA, A.refs, List.mem_append] at hj
    rcases hj with hj | hj
    · exact h x (by simp) j hj
    · exact one_refs (fun y hy => h y (by simp [hy])) j hj
theorem one_refs' {n : Nat} {l : List A} (h : ∀ x ∈ l, ∀ j ∈ x.refs, j < n) : ∀ j ∈ (oneA l).refs, j < n := by
  cases l with
  | nil => exact one_refs h
  | cons x l => cases l with
    | nil => exact h x (by simp)
    | cons y l => exact one_refs h
/-- A call, its arguments being known. X: the blocks of the rows that it reads. -/
theorem call_core {R : Type} {r : R} {k : St → Option R} {f : FuncId} {s : Sig} (hs : Sound P ρ f s) (H : Rel ρ w0 U0 own hd0 st a w hd) {xs : List A} {vs : List Value} {d : Ds (s.ps.map PM.ty)} {dst : Option Tmp} (X : Nat → Prop) (hX : (∀ b, ¬ X b) ∨ s.led = false)
    (hn : nodupB (ownArgs s.ps xs) = true) (hos : ∀ i ∈ ownArgs s.ps xs, i < st.ob.length) (hpre : s.pre d = true)
    (hargs : ∀ (Uc : Nat → Prop) (hdc : Nat → Value), (∀ b, b < w.heap.size → Uc b → Us U0 st.ob.length hd b) → (∀ b, X b → ¬ Uc b) → (∀ q, q < (ownArgs s.ps xs).length → hdc q = hd (atn 0 (ownArgs s.ps xs) q)) → ArgsOk ρ Uc w hdc s.ps d vs 0)
    (hlen : (ownArgs s.ps xs).length = nOwn s.ps) (hXo : ∀ i ∈ ownArgs s.ps xs, ∀ b, blk (hd i) = some b → ¬ X b)
    {ob2 : List Ob} {rr : Ds (s.rs.map PM.ty)} (hg : giveBack s.ps xs (s.fn d) st.ob = some (ob2, rr)) (h : k (St.put ⟨st.tm, (resA s.rs rr ob2).2⟩ dst (oneA (resA s.rs rr ob2).1)) = some r) :
    Calls P f vs.toArray w fun e w' => ∃ v st' hd', e = .returned v ∧ k st' = some r ∧ Rel ρ w0 U0 own hd0 st' (a.put dst v) w' hd' ∧ (nOwn s.ps = 0 → Ag (fun _ => False) w w') := by
  have hdcdef : ∀ q, q < nOwn s.ps → (fun q => hd (atn 0 (ownArgs s.ps xs) q)) q = hd (atn 0 (ownArgs s.ps xs) q) := fun _ _ => rfl
  generalize hhdc : (fun q => hd (atn 0 (ownArgs s.ps xs) q)) = hdc at hdcdef
  let Ux : Nat → Prop := fun b => Us U0 st.ob.length hd b ∧ (∀ i ∈ ownArgs s.ps xs, blk (hd i) ≠ some b) ∧ ¬ X b
  have hux : ∀ b, Ux b → b < w.heap.size := by
    rintro b ⟨hu | ⟨i, hi, hib⟩, _⟩
    · exact Nat.lt_of_lt_of_le (H.u0 b hu).1 H.ag.size
    · exact H.lt hi hib
  have hUc : ∀ b, b < w.heap.size → Us Ux (nOwn s.ps) hdc b → Us U0 st.ob.length hd b := by
    rintro b _ (hu | ⟨q, hq, hqb⟩)
    · exact hu.1
    · rw [hdcdef q hq] at hqb
      exact .inr ⟨_, hos _ (atn_mem_of (by omega)), hqb⟩
  have hXU : ∀ b, X b → ¬ Us Ux (nOwn s.ps) hdc b := by
    rintro b hb (hu | ⟨q, hq, hqb⟩)
    · exact hu.2.2 hb
    · rw [hdcdef q hq] at hqb
      exact hXo _ (atn_mem_of (by omega)) b hqb hb
  have ha := hargs (Us Ux (nOwn s.ps) hdc) hdc hUc hXU (fun q hq => hdcdef q (by omega))
  refine (hs d hpre w Ux hdc vs (fun b hb => ⟨hux b hb, fun i hi => by rw [hdcdef i hi]; exact hb.2.1 _ (atn_mem_of (by omega))⟩) (fun i j hi hj hij b hbi => ?_) ha).mono ?_
  · rw [hdcdef i hi] at hbi
    rw [hdcdef j hj]
    exact H.ne _ _ (hos _ (atn_mem_of (by omega))) (hos _ (atn_mem_of (by omega))) (fun e => hij (nodup_inj hn i j (by omega) (by omega) e)) b hbi
  · rintro e w' ⟨rvs, hd', rfl, hag, hkeep, hap, hmut, hret⟩
    obtain ⟨h1, h2, h3, h4, h5⟩ := giveBack_ok s.ps xs (s.fn d) st.ob 0 hg hos hn hmut
    subst h1
    let hdn : Nat → Value := fun i => if i < st.ob.length then hd i else hd' (nOwn s.ps + (i - st.ob.length))
    have hdn1 : ∀ i, i < st.ob.length → hdn i = hd i := fun i hi => by simp only [hdn]; rw [if_pos hi]
    have hdn2 : ∀ q, hdn (ob2.length + q) = hd' (nOwn s.ps + q) := fun q => by simp only [hdn]; rw [if_neg (by omega)]; congr 1; omega
    obtain ⟨g1, g2⟩ := resA_ok s.rs (dr (s.fn d)) ob2
    rw [h2] at g1
    have hag' : Ag (fun b => ∃ i ∈ ownArgs s.ps xs, blk (hd i) = some b) w w' := hag.mono (fun b _ hb => by
      rcases hb with hb | ⟨q, hq, hqb⟩
      · exact hb.elim
      · rw [hdcdef q hq] at hqb
        exact ⟨_, atn_mem_of (by omega), hqb⟩)
    -- the caller's changing blocks are the callee's
    have hUn : (∀ b, ¬ X b) → ∀ b, b < w'.heap.size → Us U0 (resA s.rs (dr (s.fn d)) ob2).2.length hdn b → Us Ux (nOwn s.ps + nOwn s.rs) hd' b := by
      intro hx b hb hu
      by_cases hown' : ∃ i ∈ ownArgs s.ps xs, blk (hd i) = some b
      · obtain ⟨i, hi, hib⟩ := hown'
        obtain ⟨q, hq, rfl⟩ := atn_idx hi
        exact .inr ⟨q, by omega, by rw [hkeep q (by omega), hdcdef q (by omega)]; exact hib⟩
      · rcases hu with hu | ⟨i, hi, hib⟩
        · exact .inl ⟨.inl hu, fun i hi hib => hown' ⟨i, hi, hib⟩, hx b⟩
        · rcases Nat.lt_or_ge i st.ob.length with hlt | hge
          · rw [hdn1 i hlt] at hib
            exact .inl ⟨.inr ⟨i, hlt, hib⟩, fun j hj hjb => hown' ⟨j, hj, hjb⟩, hx b⟩
          · have e1 : hdn i = hd' (nOwn s.ps + (i - st.ob.length)) := by simp only [hdn]; rw [if_neg (by omega)]
            rw [e1] at hib
            exact .inr ⟨_, by omega, hib⟩
    have hTr : (∀ b, ¬ X b) → Tr (Us Ux (nOwn s.ps + nOwn s.rs) hd') w' (Us U0 (resA s.rs (dr (s.fn d)) ob2).2.length hdn) w' := fun hx => Tr.of (V := fun _ => False) (Ag.refl _ _) (fun _ _ h => h.elim) (hUn hx)
    have hk : Tr (Us Ux (nOwn s.ps + nOwn s.rs) hd') w' (Us U0 (resA s.rs (dr (s.fn d)) ob2).2.length hdn) w' ∨ anyLed s.rs = false := hX.imp hTr (fun h => by simp only [Sig.led, Bool.or_eq_false_iff] at h; exact h.1)
    obtain ⟨r1, r2, r3, r4⟩ := rets_ok (hdn := hdn) H.ag.size s.rs (dr (s.fn d)) rvs ob2 (nOwn s.ps) hk hret (fun q hq => hdn2 q)
    rw [h2] at r3
    have HJ := H.jump hag' hos (ob' := (resA s.rs (dr (s.fn d)) ob2).2) (hd' := hdn) (by omega) hdn1 (fun i hi hn' => by rw [g2 i (by omega), h4 i hn']) (fun i hi hor => by
      rcases hor with hin | hge
      · have hi' := hos i hin
        obtain ⟨q, hq, hqi⟩ := atn_idx hin
        obtain ⟨e, t, ys, m1, m2, m3⟩ := h5 q hq
        rw [g2 i (by omega), ← hqi, m2]
        have e3 : hdn (atn 0 (ownArgs s.ps xs) q) = hd' (0 + q) := by rw [hdn1 _ (by rw [hqi]; exact hi'), Nat.zero_add, hkeep q (by omega), hdcdef q (by omega)]
        rw [e3]
        refine ro_row m3 (fun b hb => ⟨rfl, ?_⟩) (hX.imp hTr (fun h => by
          simp only [Sig.led, Bool.or_eq_false_iff] at h
          cases hl : t.led with
          | false => rfl
          | true => rw [m1 hl] at h; exact h.2))
        have e4 : blk (hd (atn 0 (ownArgs s.ps xs) q)) = some b := by rw [← hdn1 _ (by rw [hqi]; exact hi'), e3]; exact hb
        rw [hqi] at e4 ⊢
        exact ((H.ob i hi').blk_ge e4).1
      · rw [if_neg (by have := H.ow; omega)]
        exact (r3 i hge (by omega)).1) (fun i h1 h2' b hb => by
      have e1 : hdn i = hd' (nOwn s.ps + (i - st.ob.length)) := by simp only [hdn]; rw [if_neg (by omega)]
      rw [e1] at hb
      exact r4 (i - st.ob.length) (by omega) b hb) (fun i j h1 h2' h3' h4' hij b hb => by
      have e1 : hdn i = hd' (nOwn s.ps + (i - st.ob.length)) := by simp only [hdn]; rw [if_neg (by omega)]
      have e2 : hdn j = hd' (nOwn s.ps + (j - st.ob.length)) := by simp only [hdn]; rw [if_neg (by omega)]
      rw [e1] at hb
      rw [e2]
      exact hap _ _ (by omega) (by omega) (by omega) b hb) (fun i hor j hj => by
      rcases hor with hin | hge
      · have hi' := hos i hin
        obtain ⟨q, hq, hqi⟩ := atn_idx hin
        obtain ⟨e, t, ys, m1, m2, m3⟩ := h5 q hq
        rw [g2 i (by omega), ← hqi, m2] at hj
        simp [Ob.refs] at hj
      · rcases Nat.lt_or_ge i (resA s.rs (dr (s.fn d)) ob2).2.length with hlt | hge2
        · rw [(r3 i hge hlt).2] at hj
          cases hj
        · rw [atn_out _ _ _ hge2] at hj
          simp [Ob.refs] at hj)
    refine ⟨oneV rvs, _, hdn, rfl, h, HJ.put (one_ra r1) (one_refs' r2) dst, fun h0 => hag.mono (fun b _ hb => ?_)⟩
    rcases hb with hb | ⟨q, hq, _⟩
    · exact hb
    · omega
theorem frz_row {st : St} {i j : Nat} {e : TypeId} {t : T} {xs : List t.den} (h : atn Ob.gone st.ob j = .row e t xs) (hij : j ≠ i) : atn Ob.gone (st.frz i).ob j = .row e t xs := by
  unfold St.frz
  split
  · simp only
    rw [atn_setn, if_neg (fun hc => hij hc.1.symm), atn_mapn _ _ (ofrz_gone _ _), h]
    rfl
  · exact h
theorem frzAll_ok : ∀ (l : List Nat) (st : St) (hd : Nat → Value), Rel ρ w0 U0 own hd0 st a w hd → (∀ i ∈ l, own ≤ i) → ∃ hd1, Rel ρ w0 U0 own hd0 (frzAll l st) a w hd1 ∧ (frzAll l st).ob.length = st.ob.length ∧ (∀ i, i ∉ l → hd1 i = hd i) ∧ (∀ b, Us U0 st.ob.length hd1 b → Us U0 st.ob.length hd b) ∧
    ∀ i ∈ l, (∃ e t, ∃ xs : List t.den, atn .gone st.ob i = .row e t xs) → ∀ b, blk (hd i) = some b → ¬ Us U0 st.ob.length hd1 b
  | [], st, hd, H, _ => ⟨hd, H, rfl, fun _ _ => rfl, fun _ h => h, fun i hi => by cases hi⟩
  | i :: l, st, hd, H, ho => by
    cases hat : atn Ob.gone st.ob i with
    | row e t xs =>
      have hm := row_lt hat
      have H1 := H.frz hat (ho i (by simp))
      have hlen1 : (st.frz i).ob.length = st.ob.length := by simp only [St.frz, hat]; rw [length_setn, length_mapn]
      obtain ⟨hd1, q1, q2, q3, q4, q5⟩ := frzAll_ok l (st.frz i) _ H1 (fun j hj => ho j (by simp [hj]))
      rw [hlen1] at q2 q4 q5
      have hus : ∀ b, Us U0 st.ob.length (upd hd i nilV) b → Us U0 st.ob.length hd b := by
        rintro b (hu | ⟨q, hq, hqb⟩)
        · exact .inl hu
        · by_cases e : q = i
          · subst e; rw [upd_same, blk_nilV] at hqb; cases hqb
          · rw [upd_ne e] at hqb; exact .inr ⟨q, hq, hqb⟩
      refine ⟨hd1, q1, q2, fun j hj => ?_, fun b hb => hus b (q4 b hb), fun j hj hrow b hb hu => ?_⟩
      · rw [q3 j (fun h => hj (by simp [h])), upd_ne (fun e => hj (by simp [e]))]
      · by_cases e : j = i
        · subst e
          exact us_drop H hm b hb (q4 b hu)
        · have hj' : j ∈ l := by simpa [e] using hj
          obtain ⟨e', t', xs', hr⟩ := hrow
          exact q5 j hj' ⟨e', t', xs', frz_row hr e⟩ b (by rw [upd_ne e]; exact hb) hu
    | cells e l' =>
      have h1 : st.frz i = st := by simp only [St.frz, hat]
      have := frzAll_ok l st hd H (fun j hj => ho j (by simp [hj]))
      simp only [frzAll, h1]
      obtain ⟨hd1, q1, q2, q3, q4, q5⟩ := this
      refine ⟨hd1, q1, q2, fun j hj => q3 j (fun h => hj (by simp [h])), q4, fun j hj hrow => ?_⟩
      rcases List.mem_cons.1 hj with rfl | hj
      · obtain ⟨_, _, _, hr⟩ := hrow; rw [hat] at hr; cases hr
      · exact q5 j hj hrow
    | gone =>
      have h1 : st.frz i = st := by simp only [St.frz, hat]
      have := frzAll_ok l st hd H (fun j hj => ho j (by simp [hj]))
      simp only [frzAll, h1]
      obtain ⟨hd1, q1, q2, q3, q4, q5⟩ := this
      refine ⟨hd1, q1, q2, fun j hj => q3 j (fun h => hj (by simp [h])), q4, fun j hj hrow => ?_⟩
      rcases List.mem_cons.1 hj with rfl | hj
      · obtain ⟨_, _, _, hr⟩ := hrow; rw [hat] at hr; cases hr
      · exact q5 j hj hrow
theorem val_rows : ∀ (ps : List PM) (xs : List A) (d : Ds (ps.map PM.ty)), args st.ob ps xs = some d → ∀ i ∈ valRows ps xs, ∃ e t, ∃ ys : List t.den, atn Ob.gone st.ob i = .row e t ys
  | [], [], _, _, i, hi => by simp [valRows] at hi
  | [], _ :: _, _, h, _, _ => by simp [args] at h
  | .val t :: ps, [], _, h, _, _ => by simp [args] at h
  | .own e t :: ps, [], _, h, _, _ => by simp [args] at h
  | .val t :: ps, x :: xs, d, h, i, hi => by
    simp only [args] at h
    split at h
    · rename_i y ys hy hys
      have hrec := val_rows ps xs ys hys
      cases x with
      | row j =>
        simp only [valRows, List.mem_cons] at hi
        rcases hi with rfl | hi
        · simp only [A.toV] at hy
          split at hy
          · rename_i hat; exact ⟨_, _, _, hat⟩
          · cases hy
        · exact hrec i hi
      | cut j n f =>
        simp only [valRows, List.mem_cons] at hi
        rcases hi with rfl | hi
        · simp only [A.toV] at hy
          split at hy
          · rename_i hat; exact ⟨_, _, _, hat⟩
          · cases hy
        · exact hrec i hi
      | _ => exact hrec i (by simpa [valRows] using hi)
    · cases h
  | .own e t :: ps, x :: xs, d, h, i, hi => by
    cases x with
    | row j =>
      simp only [args] at h
      split at h
      · split at h
        · split at h
          · rename_i ys hys
            exact val_rows ps xs ys hys i (by simpa [valRows] using hi)
          · cases h
        · cases h
      · cases h
    | _ => simp [args] at h
theorem own_len : ∀ (ps : List PM) (xs : List A) (d : Ds (ps.map PM.ty)) {ob : List Ob}, args ob ps xs = some d → (ownArgs ps xs).length = nOwn ps
  | [], [], _, _, _ => rfl
  | [], _ :: _, _, _, h => by simp [args] at h
  | .val t :: ps, [], _, _, h => by simp [args] at h
  | .own e t :: ps, [], _, _, h => by simp [args] at h
  | .val t :: ps, x :: xs, d, ob, h => by
    simp only [args] at h
    split at h
    · rename_i y ys hy hys
      have e : ownArgs (.val t :: ps) (x :: xs) = ownArgs ps xs := by cases x <;> rfl
      rw [e]
      exact own_len ps xs ys hys
    · cases h
  | .own e t :: ps, x :: xs, d, ob, h => by
    cases x with
    | row j =>
      simp only [args] at h
      split at h
      · split at h
        · split at h
          · rename_i ys hys
            simp [ownArgs, nOwn, own_len ps xs ys hys]
          · cases h
        · cases h
      · cases h
    | _ => simp [args] at h
/-- Any call. -/
theorem call_sound {R : Type} {r : R} {k : St → Option R} {E : Env} (hE : E.own = own) (hsg : ∀ f s, findSig E.sg f = some s → Sound P ρ f s) (H : Rel ρ w0 U0 own hd0 st a w hd) {f : FuncId} {xs : List A} {vs : List Value} {dst : Option Tmp} (ha : All2 (RA ρ (Us U0 st.ob.length hd) w hd) xs vs)
    (h : callZ E f xs dst st k = some r) : ∃ s, findSig E.sg f = some s ∧ Calls P f vs.toArray w fun e w' => ∃ v st' hd', e = .returned v ∧ k st' = some r ∧ Rel ρ w0 U0 own hd0 st' (a.put dst v) w' hd' ∧ (nOwn s.ps = 0 → Ag (fun _ => False) w w') := by
  unfold callZ at h
  split at h
  · rename_i s hf
    refine ⟨s, hf, ?_⟩
    split at h
    · rename_i hc
      simp only [Bool.and_eq_true, List.all_eq_true, Bool.not_eq_true', List.contains_eq_mem, Bool.or_eq_true, decide_eq_true_eq] at hc
      obtain ⟨⟨hn, hov⟩, hl⟩ := hc
      split at h
      · rename_i d hd'
        split at h
        · rename_i hpre
          have hlen := own_len s.ps xs d hd'
          have hos := (args_ok H (Uc := fun b => Us U0 st.ob.length hd b ∧ ∀ i ∈ valRows s.ps xs, blk (hd i) ≠ some b) (hdc := fun q => hd (atn 0 (ownArgs s.ps xs) q)) (fun b _ hb => hb.1) s.ps xs vs d 0 hd' ha (fun q _ => by rw [Nat.zero_add]) (fun i hi b hb hn => hn.2 i hi hb)).2
          have hvr := val_rows s.ps xs d hd'
          have hov' : ∀ i ∈ ownArgs s.ps xs, i ∉ valRows s.ps xs := fun i hi hv => by have := hov i hi; simp [hv] at this
          cases hled : s.led with
          | false =>
            rw [hled] at h
            simp only [Bool.false_eq_true, if_false] at h
            split at h
            · rename_i ob2 rr hg
              refine call_core (hsg f s hf) H (fun b => ∃ i ∈ valRows s.ps xs, blk (hd i) = some b) (.inr hled) hn hos hpre (fun Uc hdc h1 h2 h3 => (args_ok H h1 s.ps xs vs d 0 hd' ha (fun q hq => by rw [Nat.zero_add]; exact h3 q hq) (fun i hi b hb => h2 b ⟨i, hi, hb⟩)).1) hlen (fun i hi b hb ⟨j, hj, hjb⟩ => ?_) hg h
              obtain ⟨_, _, _, hr⟩ := hvr j hj
              exact H.ne i j (hos i hi) (row_lt hr) (fun e => hov' i hi (e ▸ hj)) b hb hjb
            · cases h
          | true =>
            rw [hled] at h hl
            simp only [if_true] at h
            have hl' : ∀ i ∈ valRows s.ps xs, own ≤ i := fun i hi => by
              rcases hl with hl | hl
              · cases hl
              · rw [← hE]; exact hl i hi
            obtain ⟨hd1, q1, q2, q3, q4, q5⟩ := frzAll_ok (valRows s.ps xs) st hd H hl'
            split at h
            · rename_i ob2 rr hg
              refine call_core (hsg f s hf) q1 (fun _ => False) (.inl (fun _ h => h)) hn (fun i hi => by rw [q2]; exact hos i hi) hpre (fun Uc hdc h1 _ h3 => ?_) hlen (fun _ _ _ _ h => h) hg h
              rw [q2] at h1
              refine (args_ok H (fun b hb hu => q4 b (h1 b hb hu)) s.ps xs vs d 0 hd' ha (fun q hq => ?_) (fun i hi b hb hu => ?_)).1
              · rw [Nat.zero_add, h3 q hq, q3 _ (hov' _ (atn_mem_of hq))]
              · have hlt : b < w.heap.size := by
                  obtain ⟨_, _, _, hr⟩ := hvr i hi
                  exact H.lt (row_lt hr) hb
                exact q5 i hi (hvr i hi) b hb (h1 b hlt hu)
            · cases h
        · cases h
      · cases h
    · cases h
  · cases h
end
end Go.Proofs.Ythbojpaghbbnnaa.Z
namespace Go.Proofs.Ythbojpaghbbnnaa.Z
open Go Go.RowKit
set_option linter.unusedVariables false
set_option linter.unusedSimpArgs false
section
variable {P : Program} {ρ : Obs} {w : World} {hd : Nat → Value} {w0 : World} {U0 : Nat → Prop} {own : Nat} {hd0 : Nat → Value} {st : St} {a : Act} {R : Type} {r : R}
/-- A call of f enters f's body. -/
def Enters (P : Program) (f : FuncId) : Prop := ∀ args w, (callFunc f args).run P w = .ok (.enter f args) w
theorem enters_of {f : FuncId} {fn : Func} (hf : P.funcs[f]? = some fn) (hn : (fn.name == "runtime.NumGoroutine") = false) (hb : fn.body.isNone = false) : Enters P f := fun args w => by
  have hn' : ¬ fn.name = "runtime.NumGoroutine" := by simpa using hn
  cases hbb : fn.body with
  | none => rw [hbb] at hb; cases hb
  | some c => simp [callFunc, hf, hn', hbb, go_sem]
/-- What an environment says is so. -/
structure EnvOk (P : Program) (ρ : Obs) (E : Env) : Prop where
  tab : TabOk P E.tab
  sg : ∀ f s, findSig E.sg f = some s → Enters P f ∧ Sound P ρ f s
/-- Does it leave old memory as it was? -/
def quietOp (E : Env) : Op → Bool
  | .store _ _ _ => false
  | .call ⟨.builtin .append, _, _⟩ => false
  | .call ⟨.value (.func f), _, _⟩ => match findSig E.sg f with
    | some s => nOwn s.ps == 0
    | none => false
  | _ => true
theorem wp_value {o : Oper} {N : Act → World → Prop} {Q : Exit → Act → World → Prop} {v : Value} {w' : World} (h : (execOp a.eval o).run P w = .ok (.value v) w') (hN : N (a.put o.dst v) w') : o.wp P a w N Q := by
  unfold Oper.wp
  rw [h]
  exact hN
theorem all2_atn {S : A → Value → Prop} : ∀ {l : List A} {vs : List Value}, All2 S l vs → vs.length = l.length ∧ ∀ i, i < l.length → ∃ x, vs[i]? = some x ∧ S (atn .un l i) x
  | [], [], _ => ⟨rfl, fun i h => by simp at h⟩
  | [], _ :: _, h => h.elim
  | _ :: _, [], h => h.elim
  | x :: l, v :: vs, h => by
    obtain ⟨h1, h2⟩ := all2_atn h.2
    refine ⟨by simp [h1], fun i hi => ?_⟩
    cases i with
    | zero => exact ⟨v, rfl, h.1⟩
    | succ i =>
      obtain ⟨x, q1, q2⟩ := h2 i (by simpa using hi)
      exact ⟨x, by simpa using q1, q2⟩
theorem all2_app {α β : Type} {S : α → β → Prop} : ∀ {l l' : List α} {m m' : List β}, All2 S l m → All2 S l' m' → All2 S (l ++ l') (m ++ m')
  | [], _, [], _, _, h => h
  | [], _, _ :: _, _, h, _ => h.elim
  | _ :: _, _, [], _, h, _ => h.elim
  | _ :: _, _, _ :: _, _, h, k => ⟨h.1, all2_app h.2 k⟩
theorem zero_all (U : Nat → Prop) (w : World) (hd : Nat → Value) : ∀ t : T, All2 (fun x v => v.oneCell' = true ∧ RA ρ U w hd x v ∧ x.refs = []) (zeroA t) (zeroC t)
  | .int k => ⟨⟨rfl, ⟨_, rfl, rfl⟩, rfl⟩, trivial⟩
  | .bool => ⟨⟨rfl, ⟨_, rfl, rfl⟩, rfl⟩, trivial⟩
  | .flt => ⟨⟨rfl, ⟨_, rfl, rfl⟩, rfl⟩, trivial⟩
  | .list _ => ⟨⟨rfl, rfl, rfl⟩, trivial⟩
  | .pair a b => all2_app (zero_all U w hd a) (zero_all U w hd b)
  | .obj n => ⟨⟨rfl, ⟨_, rfl, _, rfl, rfl⟩, rfl⟩, trivial⟩
theorem scat_all (U : Nat → Prop) (w : World) (hd : Nat → Value) : ∀ {t : T} {cs : List Value} {x : t.den}, ICs ρ U w t cs x → All2 (fun x v => v.oneCell' = true ∧ RA ρ U w hd x v ∧ x.refs = []) (scat t x) cs
  | .int k, cs, x, h => by cases h; exact ⟨⟨rfl, ⟨_, rfl, rfl⟩, rfl⟩, trivial⟩
  | .bool, cs, x, h => by cases h; exact ⟨⟨rfl, ⟨_, rfl, rfl⟩, rfl⟩, trivial⟩
  | .flt, cs, x, h => by cases h; exact ⟨⟨rfl, ⟨_, rfl, rfl⟩, rfl⟩, trivial⟩
  | .list t, cs, x, h => by
    obtain ⟨v, rfl, _, h1⟩ := ICs.one rfl h
    exact ⟨⟨h1, ⟨_, rfl, h⟩, rfl⟩, trivial⟩
  | .pair a b, cs, x, ⟨c, d, e, h1, h2⟩ => by rw [e]; exact all2_app (scat_all U w hd h1) (scat_all U w hd h2)
  | .obj n, cs, x, h => by
    obtain ⟨v, rfl, _, h1⟩ := ICs.one rfl h
    exact ⟨⟨h1, ⟨_, rfl, h⟩, rfl⟩, trivial⟩
theorem atn_getElem {α : Type} (d : α) : ∀ (l : List α) (i : Nat) (h : i < l.length), atn d l i = l[i]
  | [], i, h => by simp at h
  | _ :: _, 0, _ => rfl
  | _ :: l, i + 1, h => by simp only [atn, List.getElem_cons_succ]; exact atn_getElem d l i (by simpa using h)
/-- A new struct variable. -/
theorem Rel.newBox (H : Rel ρ w0 U0 own hd0 st a w hd) {e : TypeId} {l : List A} {cs : List Value} (h : All2 (fun x v => v.oneCell' = true ∧ RA ρ (Us U0 st.ob.length hd) w hd x v ∧ x.refs = []) l cs) (d : Option Tmp) :
    Rel ρ w0 U0 own hd0 (St.put ⟨st.tm, st.ob ++ [.cells e l]⟩ d (.box st.ob.length 0)) (a.put d (.pointer (some ⟨w.heap.size, 0, none⟩))) (w.alloc (.cells cs.toArray e)) (upd hd st.ob.length (.pointer (some ⟨w.heap.size, 0, none⟩))) := by
  have k : Ag (fun _ => False) w (w.alloc (.cells cs.toArray e)) := ⟨rfl, rfl, rfl, by simp, fun b hb _ => Below.heap_alloc w _ b hb⟩
  have hb : ∀ b, blk (Value.pointer (some ⟨w.heap.size, 0, none⟩)) = some b → w.heap.size ≤ b := fun b hb => by
    have : w.heap.size = b := by simpa [blk] using hb
    omega
  have ht : Tr (Us U0 st.ob.length hd) w (Us U0 (st.ob.length + 1) (upd hd st.ob.length (.pointer (some ⟨w.heap.size, 0, none⟩)))) (w.alloc (.cells cs.toArray e)) := Tr.of k (fun _ _ h => h.elim) (us_new hb)
  obtain ⟨h1, h2⟩ := all2_atn h
  have hno : ∀ j ∈ (Ob.cells e l).refs, j < st.ob.length := fun j hj => by
    obtain ⟨y, hy, hjy⟩ := List.mem_flatMap.1 hj
    obtain ⟨i, hi, e1⟩ := List.getElem_of_mem hy
    obtain ⟨x, _, _, _, h5⟩ := h2 i hi
    have : atn A.un l i = y := by rw [← e1]; exact atn_getElem _ l i hi
    rw [this] at h5
    rw [h5] at hjy
    cases hjy
  have H1 := H.new k (o := .cells e l) (v := .pointer (some ⟨w.heap.size, 0, none⟩)) _ (fun i hi => upd_ne (by omega)) (upd_same _ _ _) hno hb ⟨w.heap.size, cs, rfl, H.ag.size, heap_alloc_new w _, h1, fun i hi => by
    obtain ⟨x, q1, q2, q3, q4⟩ := h2 i hi
    exact ⟨x, q1, q2, RA.tr ht (fun j hj => by rw [q4] at hj; cases hj) q3⟩⟩
  exact H1.put (x := .box st.ob.length 0) (v := .pointer (some ⟨w.heap.size, 0, none⟩)) ⟨w.heap.size, by simp [upd_same], rfl⟩ (by simp [A.refs]) d
/-- What a list of operands leaves when all that is to be read for ever is frozen. -/
theorem thawAll_ok : ∀ (l : List A) (st : St) (hd : Nat → Value), Rel ρ w0 U0 own hd0 st a w hd → thawAllB own l = true → (∀ x ∈ l, ∀ j ∈ x.refs, j < st.ob.length) → ∃ hd1, Rel ρ w0 U0 own hd0 (thawAll l st) a w hd1 ∧ (thawAll l st).ob.length = st.ob.length ∧ (∀ b, Us U0 st.ob.length hd1 b → Us U0 st.ob.length hd b) ∧
    ∀ x ∈ l, ∀ {u : T} {v : Value} {y : u.den}, A.toV st.ob u x = some y → RA ρ (Us U0 st.ob.length hd) w hd x v → IRd ρ (Us U0 st.ob.length hd1) w u v y
  | [], st, hd, H, _, _ => ⟨hd, H, rfl, fun _ h => h, fun x hx => by cases hx⟩
  | x :: l, st, hd, H, hb, hr => by
    simp only [thawAllB, Bool.and_eq_true] at hb
    obtain ⟨hd', H', hlen, hne, hus, hval⟩ := H.thaw hb.1 (hr x (by simp))
    obtain ⟨hd1, q1, q2, q3, q4⟩ := thawAll_ok l (x.thaw st) hd' H' hb.2 (fun y hy j hj => by rw [hlen]; exact hr y (by simp [hy]) j hj)
    rw [hlen] at q2 q3
    refine ⟨hd1, q1, q2, fun b hb => hus b (q3 b hb), fun y hy u v z hz hra => ?_⟩
    have htr : Tr (Us U0 st.ob.length hd') w (Us U0 st.ob.length hd1) w := Tr.of (V := fun _ => False) (Ag.refl _ _) (fun _ _ h => h.elim) (fun b _ hb => q3 b hb)
    by_cases hyx : y = x
    · subst hyx
      exact (hval hz hra).tr htr
    · have hy' : y ∈ l := by simpa [hyx] using hy
      -- y names another row than x does, or the same: its content is known either way
      by_cases hshare : ∃ i ∈ y.rowOf, i ∈ x.rowOf
      · obtain ⟨i, hi, hix⟩ := hshare
        have hlt : i < st.ob.length := by
          cases y <;> simp [A.rowOf] at hi <;> subst hi <;> exact hr _ hy _ (by simp [A.refs])
        have hrow : ∃ e t, ∃ xs : List t.den, atn Ob.gone st.ob i = .row e t xs := by
          cases y <;> simp [A.rowOf] at hi <;> subst hi <;> simp only [A.toV] at hz <;> split at hz <;> first | (rename_i hat; exact ⟨_, _, _, hat⟩) | cases hz
        obtain ⟨e, t, xs, hat⟩ := hrow
        have hth : x.thaw st = st.frz i := by cases x <;> simp [A.rowOf] at hix <;> subst hix <;> rfl
        refine (toV_ird H hz hra (U' := Us U0 st.ob.length hd') (fun b _ hb => hus b hb) (fun j hj b hb hu => ?_)).tr htr
        have hji : j = i := by cases y <;> simp [A.rowOf] at hi hj <;> omega
        subst hji
        -- row j is frozen in hd'
        rcases hu with hu | ⟨q, hq, hqb⟩
        · exact H.u0n hlt hb hu
        · by_cases hqi : q = j
          · subst hqi
            have hro := H'.ob q (by rw [hlen]; exact hq)
            have hgone : atn Ob.gone (x.thaw st).ob q = .gone := by
              rw [hth]
              simp only [St.frz, hat]
              rw [atn_setn, if_pos ⟨rfl, by rw [length_mapn]; exact hlt⟩]
            rw [hgone] at hro
            rw [show hd' q = nilV from hro, blk_nilV] at hqb
            cases hqb
          · have hqx : q ∉ x.rowOf := fun hm => hqi (by cases x <;> simp [A.rowOf] at hix hm <;> omega)
            rw [hne q hqx] at hqb
            exact H.ne q j hq hlt hqi b hqb hb
      · have hno : ∀ i ∈ y.rowOf, i ∉ x.rowOf := fun i hi hix => hshare ⟨i, hi, hix⟩
        have hra' : RA ρ (Us U0 st.ob.length hd') w hd' y v := by
          have ht0 : Tr (Us U0 st.ob.length hd) w (Us U0 st.ob.length hd') w := Tr.of (V := fun _ => False) (Ag.refl _ _) (fun _ _ h => h.elim) (fun b _ hb => hus b hb)
          cases y with
          | row i => exact RA.tr ht0 (fun j hj => hne j (hno j (by simpa [A.refs, A.rowOf] using hj))) hra
          | cut i n f => exact RA.tr ht0 (fun j hj => hne j (hno j (by simpa [A.refs, A.rowOf] using hj))) hra
          | v t y => exact RA.tr ht0 (fun j hj => by cases hj) hra
          | nls => exact RA.tr ht0 (fun j hj => by cases hj) hra
          | nlp => exact RA.tr ht0 (fun j hj => by cases hj) hra
          | _ => simp [A.toV] at hz
        have hz' : A.toV (x.thaw st).ob u y = some z := by
          have hkeep : ∀ i ∈ y.rowOf, ∀ e t, ∀ xs : List t.den, atn Ob.gone st.ob i = .row e t xs → atn Ob.gone (x.thaw st).ob i = .row e t xs := fun i hi e t xs hat => by
            cases x with
            | row j => exact frz_row hat (fun e => hno i hi (by simp [A.rowOf, e]))
            | cut j n f => exact frz_row hat (fun e => hno i hi (by simp [A.rowOf, e]))
            | _ => exact hat
          cases y with
          | row i =>
            simp only [A.toV] at hz ⊢
            split at hz
            · rename_i e t xs hat
              rw [hkeep i (by simp [A.rowOf]) e t xs hat]
              exact hz
            · cases hz
          | cut i n f =>
            simp only [A.toV] at hz ⊢
            split at hz
            · rename_i e t xs hat
              rw [hkeep i (by simp [A.rowOf]) e t xs hat]
              exact hz
            · cases hz
          | v t y => exact hz
          | nls => exact hz
          | nlp => exact hz
          | _ => simp [A.toV] at hz
        rw [← hlen] at hra'
        have := q4 y hy' hz' hra'
        rw [hlen] at this
        exact this
/-- An operation that makes or changes memory. -/
theorem eff_sound {E : Env} (hE : EnvOk P ρ E) (ho : E.own = own) (H : Rel ρ w0 U0 own hd0 st a w hd) {o : Oper} {k : St → Option R} (h : effZ E o st k = some r) {N : Act → World → Prop} {Q : Exit → Act → World → Prop}
    (hN : ∀ st' a' w' hd', k st' = some r → Rel ρ w0 U0 own hd0 st' a' w' hd' → (quietOp E o.op = true → Ag (fun _ => False) w w') → N a' w') : o.wp P a w N Q := by
  obtain ⟨dst, op, type, pos, after, guard⟩ := o
  have he := H.ev_
  unfold effZ at h
  simp only at h hN
  split at h
  · rename_i f xs ts
    obtain ⟨s, hf, hc⟩ := call_sound ho (fun f s hs => (hE.sg f s hs).2) H (all2_map he xs.toList) h
    have hent := (hE.sg f s hf).1
    unfold Oper.wp
    have hr : (execOp a.eval ⟨dst, .call ⟨.value (.func f), xs, ts⟩, type, pos, after, guard⟩).run P w = .ok (.enter f (xs.map a.eval)) w := by
      have := hent (xs.map a.eval) w
      have hfv : a.eval (.func f) = .func (.func f) #[] #[] := rfl
      simp only [execOp, resolve, hfv, Deferred.ofValue, Sem.run_bind, Sem.run_pure, Result.andThen_ok, invoke, Array.append_empty, Array.empty_append, this]
    rw [hr]
    show Calls P f _ w _
    have e1 : (xs.toList.map a.eval).toArray = xs.map a.eval := by rw [← Array.toList_map, Array.toArray_toList]
    rw [← e1]
    refine hc.mono ?_
    rintro e w' ⟨v, st', hd', rfl, h1, h2, h3⟩
    refine hN _ _ _ _ h1 h2 (fun hq => h3 ?_)
    simp only [quietOp, hf] at hq
    simpa using hq
  · rename_i xs ts
    obtain ⟨xs⟩ := xs
    obtain ⟨ts⟩ := ts
    simp only at h
    split at h
    · rename_i x y t t'
      split at h
      · rename_i ht
        subst ht
        subst ho
        obtain ⟨st', v', w', hd', h1, h2, h3⟩ := append_sound hE.tab H h type
        refine wp_value (v := v') (w' := w') ?_ (hN _ _ _ _ h1 h3 (fun hq => by simp [quietOp] at hq))
        have h2' := h2
        simp only [execOp, resolve, invoke, builtin, Sem.run_bind, Sem.run_pure, Result.andThen_ok, List.map_toArray, List.map_cons, List.map_nil, h2']
      · cases h
    · cases h
  · rename_i t l c
    split at h
    · rename_i e i n m hel hl hc
      have el := IRd.int (hl ▸ he l)
      have ec := IRd.int (hc ▸ he c)
      split at h
      · rename_i hlc
        split at h
        · rename_i h0
          split at h
          · rename_i hb
            have : n = (0 : Int) := by
              unfold isZero at hlc
              split at hlc
              · rename_i n'
                simp only [ev, lit] at hl
                injection hl with _ hl
                have e0 : n' = 0 := by simpa using hlc
                rw [← hl, e0]
              · cases hlc
            subst this
            obtain ⟨v, w', h1, h2, h3⟩ := make_cap hE.tab hel h0 hb w
            refine wp_value (v := v) (w' := w') ?_ (hN _ _ _ _ h (H.newRow h3 (xs := []) (cs := []) h2 rfl dst) (fun _ => h3))
            simp only [execOp, Sem.run_bind, el, ec, h1, Result.andThen_ok, Sem.run_pure]
          · cases h
        · cases h
      · split at h
        · rename_i hnm
          subst hnm
          split at h
          · rename_i h0
            split at h
            · rename_i hb
              obtain ⟨v, w', h1, h2, h3⟩ := make_full hE.tab hel h0 hb w
              refine wp_value (v := v) (w' := w') ?_ (hN _ _ _ _ h (H.newRow h3 (by rw [List.length_replicate]; exact h2) (Els.replicate (zero_ics _) _) dst) (fun _ => h3))
              simp only [execOp, Sem.run_bind, el, ec, h1, Result.andThen_ok, Sem.run_pure]
            · cases h
          · cases h
        · cases h
    · cases h
  · rename_i t nn ps
    split at h
    · rename_i e i hel
      split at h
      · rename_i l hl
        split at h
        · rename_i hcnd
          obtain ⟨hlen, hnn, hth⟩ := hcnd
          rw [ho] at hth
          have hrf : ∀ x ∈ ps.toList.map (fun p => ev st p.2), ∀ j ∈ x.refs, j < st.ob.length := fun x hx => by
            obtain ⟨p, _, rfl⟩ := List.mem_map.1 hx
            exact H.refs p.2
          obtain ⟨hd1, q1, q2, q3, q4⟩ := thawAll_ok (ps.toList.map (fun p => ev st p.2)) st hd H hth hrf
          obtain ⟨vs, r1, r2, r3, r4⟩ := parts_all (ρ := ρ) (U := Us U0 st.ob.length hd1) (w := w) (st := st) (ev' := a.eval) st.ob (u := i.t) ps.toList 0 (fun p hp y hy => q4 _ (List.mem_map.2 ⟨p, hp, rfl⟩) hy (he p.2)) hl
          have hps : (ps.map fun (i, x) => (i, a.eval x)).toList = ((ps.toList.map fun p => a.eval p.2).zipIdx 0).map fun p => (p.2, p.1) := by
            rw [← r4]
            simp
          have hvl : vs.length = nn := by rw [r3]; exact hlen
          obtain ⟨v, w', s1, s2, s3⟩ := build_row hE.tab hel hps r1 (by rw [hvl]; exact hnn) w
          rw [← q2] at r2
          rw [hvl] at s1
          refine wp_value (v := v) (w' := w') ?_ (hN _ _ _ _ h (q1.newRow s3 (by rw [← r3]; exact s2) r2 dst) (fun _ => s3))
          simp only [execOp, Sem.run_bind, s1, Result.andThen_ok, Sem.run_pure]
        · cases h
      · cases h
    · cases h
  · rename_i e
    split at h
    · rename_i i hf
      obtain ⟨inf, i1, _, _, _, i5⟩ := hE.tab.info _ _ hf
      have hpc : (pack i.t (zeroC i.t)).cells = (zeroC i.t).toArray := pack_cs (zero_ics (ρ := fun _ _ _ _ => True) (U := fun _ => True) (w := w) i.t)
      have k0 : Ag (fun _ => False) w (w.alloc (.cells (zeroC i.t).toArray e)) := ⟨rfl, rfl, rfl, by simp, fun b hb _ => Below.heap_alloc w _ b hb⟩
      refine wp_value (v := .pointer (some ⟨w.heap.size, 0, none⟩)) (w' := w.alloc (.cells (zeroC i.t).toArray e)) ?_ (hN _ _ _ _ h (H.newBox (zero_all _ _ _ _) dst) (fun _ => k0))
      simp [execOp, Instr.alloc, zeroValue, typeInfo, i1, i5, newVar, Go.newRow, go_sem]
      exact congrArg (fun c => w.alloc (.cells c e)) hpc
    · cases h
  · rename_i e x
    split at h
    · rename_i i hf
      split at h
      · rename_i y st1 hy
        split at h
        · rename_i hth
          rw [ho] at hth
          obtain ⟨hd', H', hlen, hne, hus, hval⟩ := H.thaw hth (H.refs x)
          obtain ⟨cs, e1, hcs⟩ := hval hy (he x)
          rw [← hlen] at hcs
          have k0 : Ag (fun _ => False) w (w.alloc (.cells cs.toArray e)) := ⟨rfl, rfl, rfl, by simp, fun b hb _ => Below.heap_alloc w _ b hb⟩
          refine wp_value (v := .pointer (some ⟨w.heap.size, 0, none⟩)) (w' := w.alloc (.cells cs.toArray e)) ?_ (hN _ _ _ _ h (H'.newBox (scat_all _ _ _ hcs) dst) (fun _ => k0))
          simp only [execOp, Instr.box, e1, newVar, Go.newRow, pack_cs hcs, Sem.run_bind, Sem.run_pure, run_newObj_alloc, Result.andThen_ok]
        · cases h
      · cases h
    · cases h
  · rename_i t ad x
    rw [ho] at h
    obtain ⟨st', w', hd', h1, h2, h3⟩ := store_sound hE.tab H h
    unfold Oper.wp
    have hr : (execOp a.eval ⟨dst, .store t ad x, type, pos, after, guard⟩).run P w = .ok .skip w' := by
      simp only [execOp, Sem.run_bind, h2, Result.andThen_ok, Sem.run_pure]
    rw [hr]
    exact hN _ _ _ _ h1 (h3.put (x := .und) (v := undef) rfl (by simp [A.refs]) dst) (fun hq => by simp [quietOp] at hq)
  · cases h
end
end Go.Proofs.Ythbojpaghbbnnaa.Z
