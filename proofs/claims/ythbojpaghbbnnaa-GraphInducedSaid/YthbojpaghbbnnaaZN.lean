/- A function's surroundings from a list of its loops: shapes of the states at a loop's head and behind it. Plain lemmas; no condition. -/
import Derived.Test.YthbojpaghbbnnaaZM
namespace Go.Proofs.Ythbojpaghbbnnaa.Z
open Go Go.RowKit
set_option linter.unusedVariables false

/-- The shape of what a temporary holds. -/
inductive Sh where
  | un
  | und
  | v (t : T)
  | nls
  | nlp
  | row (i : Nat)
  | cut (i : Nat) (f : Bool)
  | adr (i k s : Nat) (t : T)
  | ref (t : T)
  | box (i k : Nat)
inductive OSh where
  | row (e : TypeId) (t : T)
  | cells (e : TypeId) (l : List Sh)
  | gone
structure Shape where
  tm : List Sh
  ob : List OSh
abbrev Vs : List Sh → Type
  | [] => Unit
  | .v t :: l => t.den × Vs l
  | .ref t :: l => t.den × Vs l
  | .cut _ _ :: l => Nat × Vs l
  | .adr _ _ _ _ :: l => Nat × Vs l
  | .un :: l => Vs l
  | .und :: l => Vs l
  | .nls :: l => Vs l
  | .nlp :: l => Vs l
  | .row _ :: l => Vs l
  | .box _ _ :: l => Vs l
abbrev Os : List OSh → Type
  | [] => Unit
  | .row _ t :: l => List t.den × Os l
  | .cells _ s :: l => Vs s × Os l
  | .gone :: l => Os l
abbrev VO (s : Shape) : Type := Vs s.tm × Os s.ob
def bT : (l : List Sh) → Vs l → List A
  | [], _ => []
  | .v t :: l, d => .v t d.1 :: bT l d.2
  | .ref t :: l, d => .ref t d.1 :: bT l d.2
  | .cut i f :: l, d => .cut i d.1 f :: bT l d.2
  | .adr i k s t :: l, d => .adr i d.1 k s t :: bT l d.2
  | .un :: l, d => .un :: bT l d
  | .und :: l, d => .und :: bT l d
  | .nls :: l, d => .nls :: bT l d
  | .nlp :: l, d => .nlp :: bT l d
  | .row i :: l, d => .row i :: bT l d
  | .box i k :: l, d => .box i k :: bT l d
def bO : (l : List OSh) → Os l → List Ob
  | [], _ => []
  | .row e t :: l, d => .row e t d.1 :: bO l d.2
  | .cells e s :: l, d => .cells e (bT s d.1) :: bO l d.2
  | .gone :: l, d => .gone :: bO l d
def bS (s : Shape) (d : VO s) : St := ⟨bT s.tm d.1, bO s.ob d.2⟩
def pT : (l : List Sh) → List A → Option (Vs l)
  | [], [] => some ()
  | .v t :: l, .v u x :: r => if h : u = t then (match pT l r with
    | some d => some (T.cast h x, d)
    | none => none) else none
  | .ref t :: l, .ref u x :: r => if h : u = t then (match pT l r with
    | some d => some (T.cast h x, d)
    | none => none) else none
  | .cut i f :: l, .cut j n g :: r => if i = j ∧ f = g then (match pT l r with
    | some d => some (n, d)
    | none => none) else none
  | .adr i k s t :: l, .adr i' j k' s' t' :: r => if i = i' ∧ k = k' ∧ s = s' ∧ t = t' then (match pT l r with
    | some d => some (j, d)
    | none => none) else none
  | .un :: l, .un :: r => pT l r
  | .und :: l, .und :: r => pT l r
  | .nls :: l, .nls :: r => pT l r
  | .nlp :: l, .nlp :: r => pT l r
  | .row i :: l, .row j :: r => if i = j then pT l r else none
  | .box i k :: l, .box j k' :: r => if i = j ∧ k = k' then pT l r else none
  | _, _ => none
def pO : (l : List OSh) → List Ob → Option (Os l)
  | [], [] => some ()
  | .row e t :: l, .row e' u xs :: r => if h : u = t ∧ e' = e then (match pO l r with
    | some d => some (T.cast (a := .list u) (b := .list t) (h.1 ▸ rfl) xs, d)
    | none => none) else none
  | .cells e s :: l, .cells e' xs :: r => if e' = e then (match pT s xs, pO l r with
    | some x, some d => some (x, d)
    | _, _ => none) else none
  | .gone :: l, .gone :: r => pO l r
  | _, _ => none
def pS (s : Shape) (st : St) : Option (VO s) :=
  match pT s.tm st.tm, pO s.ob st.ob with
  | some a, some b => some (a, b)
  | _, _ => none
theorem pT_ok : ∀ (l : List Sh) (r : List A) {d : Vs l}, pT l r = some d → r = bT l d := by
  intro l
  induction l with
  | nil =>
    intro r d h
    cases r with
    | nil => rfl
    | cons x r => simp [pT] at h
  | cons s l ih =>
    intro r d h
    cases r with
    | nil => cases s <;> simp [pT] at h
    | cons x r =>
      cases s <;> cases x <;> simp only [pT] at h <;> first | cases h | skip
      all_goals first
        | (rw [ih r h]; rfl)
        | (split at h
           · rename_i hc
             first
               | (rw [ih r h, hc]; rfl)
               | (obtain ⟨rfl, rfl⟩ := hc; rw [ih r h]; rfl)
               | (split at h
                  · rename_i d' hd'
                    injection h with h
                    first
                      | (obtain ⟨rfl, rfl, rfl, rfl⟩ := hc; subst h; rw [ih r hd']; rfl)
                      | (obtain ⟨rfl, rfl⟩ := hc; subst h; rw [ih r hd']; rfl)
                      | (subst hc; subst h; rw [ih r hd']; rfl)
                  · cases h)
           · cases h)
theorem pO_ok : ∀ (l : List OSh) (r : List Ob) {d : Os l}, pO l r = some d → r = bO l d := by
  intro l
  induction l with
  | nil =>
    intro r d h
    cases r with
    | nil => rfl
    | cons x r => simp [pO] at h
  | cons s l ih =>
    intro r d h
    cases r with
    | nil => cases s <;> simp [pO] at h
    | cons x r =>
      cases s <;> cases x <;> simp only [pO] at h <;> first | cases h | skip
      · split at h
        · rename_i hc
          split at h
          · rename_i d' hd'
            injection h with h
            obtain ⟨rfl, rfl⟩ := hc
            subst h
            rw [ih r hd']
            rfl
          · cases h
        · cases h
      · split at h
        · rename_i hc
          split at h
          · rename_i x' d' hx' hd'
            injection h with h
            subst hc
            subst h
            rw [ih r hd', pT_ok _ _ hx']
            rfl
          · cases h
        · cases h
      · rw [ih r h]
        rfl
theorem pS_ok {s : Shape} {st : St} {d : VO s} (h : pS s st = some d) : st = bS s d := by
  unfold pS at h
  split at h
  · rename_i a b ha hb
    injection h with h
    subst h
    cases st
    simp only [bS, St.mk.injEq]
    exact ⟨pT_ok _ _ ha, pO_ok _ _ hb⟩
  · cases h
structure Way where
  ex : Ex
  h : Head
  s : Shape
abbrev Xs : List Way → Type
  | [] => Unit
  | [w] => VO w.s
  | w :: w' :: l => VO w.s ⊕ Xs (w' :: l)
def alt {α β R : Type} (f : α → R) (g : β → R) : α ⊕ β → R
  | .inl a => f a
  | .inr b => g b
def exKs {R : Type} (K : Ex → St → Option R) : (l : List Way) → Xs l → Option R
  | [] => fun _ => none
  | [w] => fun d => K w.ex (bS w.s d)
  | w :: w' :: l => alt (fun d : VO w.s => K w.ex (bS w.s d)) (exKs K (w' :: l))
def exK {R : Type} (l : List Way) (z : Xs l) (K : Ex → St → Option R) : Option R := exKs K l z
def exE : (l : List Way) → Xs l → Ex
  | [], _ => .nm
  | [w], _ => w.ex
  | w :: _ :: _, .inl _ => w.ex
  | _ :: w' :: l, .inr d => exE (w' :: l) d
def exS : (l : List Way) → Xs l → St
  | [], _ => ⟨[], []⟩
  | [w], d => bS w.s d
  | w :: _ :: _, .inl d => bS w.s d
  | _ :: w' :: l, .inr d => exS (w' :: l) d
theorem exK_eq {R : Type} (K : Ex → St → Option R) : ∀ (l : List Way) (z : Xs l), l ≠ [] → exK l z K = K (exE l z) (exS l z)
  | [], _, h => absurd rfl h
  | [w], d, _ => rfl
  | w :: _ :: _, .inl d, _ => rfl
  | _ :: w' :: l, .inr d, _ => exK_eq K (w' :: l) d (by simp)
structure Lp where
  id : Nat
  h : Head
  s : Shape
  xs : List Way
  fin : VO s → Option (Xs xs)
def findLp : List Lp → Nat → Option Lp
  | [], _ => none
  | x :: l, i => if x.id = i then some x else findLp l i
def exB : Ex → Ex → Bool
  | .nm, .nm => true
  | .ex i, .ex j => i == j
  | .rt, .rt => true
  | _, _ => false
def findWay : List Way → Ex → Head
  | [], _ => ⟨[]⟩
  | w :: l, e => if exB w.ex e = true then w.h else findWay l e
def findOrd : List (Nat × List Nat) → Nat → List Nat
  | [], _ => []
  | (k, o) :: l, i => if k = i then o else findOrd l i
def lpK {R : Type} (L : Lp) (st : St) (K : Ex → St → Option R) : Option R :=
  match pS L.s st with
  | some d => match L.fin d with
    | some z => exK L.xs z K
    | none => none
  | none => none
def mkEnv (tab : Tab) (sg : List (FuncId × Sig)) (own : Nat) (ord : List (Nat × List Nat)) (ls : List Lp) : Env where
  tab := tab
  sg := sg
  ord := findOrd ord
  head := fun i => match findLp ls i with
    | some L => L.h
    | none => ⟨[]⟩
  tail := fun i e => match findLp ls i with
    | some L => findWay L.xs e
    | none => ⟨[]⟩
  lp := fun i st {_} K => match findLp ls i with
    | some L => lpK L st K
    | none => none
  own := own
  fx := atn true (List.replicate own true)
/-- The same, some of the objects that are handed over being ones that may move. -/
def mkEnvF (tab : Tab) (sg : List (FuncId × Sig)) (own : Nat) (fx : List Bool) (ord : List (Nat × List Nat)) (ls : List Lp) : Env := { mkEnv tab sg own ord ls with fx := atn true fx }
/-- One round of loop L is what rd says. -/
def RoundIs (E : Env) (x : Code) (L : Lp) (rd : Rd (VO L.s) (Xs L.xs)) : Prop :=
  ∀ (R : Type) (v : VO L.s) (k : St → Option R) (kx : Ex → St → Option R), exec E x (bS L.s v) (fun e st' => match e with
    | .nm => canon E.own (E.head (firstRegion x)) st' k
    | .ex i => canon E.own (E.tail (firstRegion x) (.ex i)) st' (kx (.ex i))
    | .rt => canon E.own (E.tail (firstRegion x) .rt) st' (kx .rt)) = rd v (fun v' => k (bS L.s v')) (fun z => exK L.xs z kx)
def Ends (L : Lp) (rd : Rd (VO L.s) (Xs L.xs)) : Prop := ∀ v z, L.fin v = some z → ∃ m, ∀ (R : Type) (kx : Xs L.xs → Option R), it rd m v kx = kx z
theorem loopOk_lp {tab : Tab} {sg : List (FuncId × Sig)} {own : Nat} {ord : List (Nat × List Nat)} {ls : List Lp} {x : Code} {L : Lp} (hL : findLp ls (firstRegion x) = some L) (hx : L.xs ≠ []) {rd : Rd (VO L.s) (Xs L.xs)} (h1 : RoundIs (mkEnv tab sg own ord ls) x L rd) (hf : Ends L rd) : LoopOk (mkEnv tab sg own ord ls) x := by
  refine loopOk_of (rd := rd) (bS L.s) (fun z => (exE L.xs z, exS L.xs z)) L.fin (fun R v k kx => (h1 R v k kx).trans ?_) (fun st => ?_) hf
  · show rd v _ _ = rd v _ _
    congr 1
    funext z
    exact exK_eq kx L.xs z hx
  · have e : ∀ (R : Type) (K : Ex → St → Option R), (mkEnv tab sg own ord ls).lp (firstRegion x) st K = lpK L st K := fun R K => by
      simp only [mkEnv, hL]
    cases hp : pS L.s st with
    | none => exact .inl (fun R K => by rw [e]; simp only [lpK, hp])
    | some d =>
      refine .inr ⟨d, pS_ok hp, fun R K => ?_⟩
      rw [e]
      simp only [lpK, hp]
      cases L.fin d with
      | none => rfl
      | some z => exact exK_eq K L.xs z hx
/-- A loop ends as it says if each round leads on to a smaller state with the same end, or to the end. -/
theorem ends_of {L : Lp} {rd : Rd (VO L.s) (Xs L.xs)} (μ : VO L.s → Nat) (h : ∀ v z, L.fin v = some z → (∃ v', μ v' < μ v ∧ L.fin v' = some z ∧ ∀ (R : Type) (k : VO L.s → Option R) (kx : Xs L.xs → Option R), rd v k kx = k v') ∨ ∀ (R : Type) (k : VO L.s → Option R) (kx : Xs L.xs → Option R), rd v k kx = kx z) : Ends L rd := by
  have key : ∀ (n : Nat) v z, μ v < n → L.fin v = some z → ∃ m, ∀ (R : Type) (kx : Xs L.xs → Option R), it rd m v kx = kx z := by
    intro n
    induction n with
    | zero => intro v z hv; omega
    | succ n ih =>
      intro v z hv hz
      rcases h v z hz with ⟨v', h1, h2, h3⟩ | h3
      · obtain ⟨m, hm⟩ := ih v' z (by omega) h2
        exact ⟨m + 1, fun R kx => by show rd v _ _ = _; rw [h3, hm]⟩
      · exact ⟨1, fun R kx => by show rd v _ _ = _; rw [h3]⟩
  exact fun v z hz => key (μ v + 1) v z (by omega) hz
/-- A part of a piece of code. -/
def sub : List Bool → Code → Code
  | [], c => c
  | false :: l, .seq a _ => sub l a
  | true :: l, .seq _ b => sub l b
  | false :: l, .cond _ a _ => sub l a
  | true :: l, .cond _ _ b => sub l b
  | _ :: l, .block _ a => sub l a
  | _ :: l, .loop a => sub l a
  | _, _ => .skip
theorem findSig_mem : ∀ {l : List (FuncId × Sig)} {f : FuncId} {s : Sig}, findSig l f = some s → (f, s) ∈ l
  | [], _, _, h => by simp [findSig] at h
  | (k, s') :: l, f, s, h => by
    unfold findSig at h
    split at h
    · rename_i e
      injection h with h
      subst e
      subst h
      exact List.mem_cons_self ..
    · exact List.mem_cons_of_mem _ (findSig_mem h)
theorem envOk_of {P : Program} {ρ : Obs} {tab : Tab} {sg : List (FuncId × Sig)} {own : Nat} {ord : List (Nat × List Nat)} {ls : List Lp} (ht : TabOk P tab) (h : ∀ p ∈ sg, Enters P p.1 ∧ Sound P ρ p.1 p.2) : EnvOk P ρ (mkEnv tab sg own ord ls) where
  tab := ht
  sg := fun f s hs => h (f, s) (findSig_mem hs)
/-! ### A loop's summary, without a formula -/
def FinAt {V X : Type} (rd : Rd V X) (v : V) (m : Nat) (z : X) : Prop := ∀ (R : Type) (kx : X → Option R), it rd m v kx = kx z
def FinLeast {V X : Type} (rd : Rd V X) (v : V) (z : X) : Prop := ∃ m, FinAt rd v m z ∧ ∀ m', m' < m → ∀ z', ¬ FinAt rd v m' z'
open Classical in
noncomputable def finOf {V X : Type} (rd : Rd V X) (v : V) : Option X := if h : ∃ z, FinLeast rd v z then some (Classical.choose h) else none
theorem finLeast_uniq {V X : Type} {rd : Rd V X} {v : V} {z z' : X} (h : FinLeast rd v z) (h' : FinLeast rd v z') : z = z' := by
  obtain ⟨m, h1, h2⟩ := h
  obtain ⟨m', h3, h4⟩ := h'
  have e : m = m' := by
    rcases Nat.lt_trichotomy m m' with q | q | q
    · exact absurd h1 (h4 m q z)
    · exact q
    · exact absurd h3 (h2 m' q z')
  subst e
  have a := h1 X some
  rw [h3 X some] at a
  injection a with a
  exact a.symm
theorem finOf_iff {V X : Type} {rd : Rd V X} {v : V} {z : X} : finOf rd v = some z ↔ FinLeast rd v z := by
  unfold finOf
  split
  · rename_i h
    constructor
    · intro e
      injection e with e
      exact e ▸ Classical.choose_spec h
    · intro k
      rw [finLeast_uniq (Classical.choose_spec h) k]
  · rename_i h
    constructor
    · intro e; cases e
    · intro k; exact absurd ⟨z, k⟩ h
theorem finAt_zero {V X : Type} {rd : Rd V X} {v : V} {z : X} : ¬ FinAt rd v 0 z := fun h => by
  have := h X some
  simp [it] at this
theorem finOf_step {V X : Type} {rd : Rd V X} {v v' : V} (h : ∀ (R : Type) (k : V → Option R) (kx : X → Option R), rd v k kx = k v') : finOf rd v = finOf rd v' := by
  have e : ∀ m z, FinAt rd v (m + 1) z ↔ FinAt rd v' m z := fun m z => by
    constructor
    · intro a R kx
      rw [← a R kx]
      show _ = rd v _ _
      rw [h]
    · intro a R kx
      rw [← a R kx]
      show rd v _ _ = _
      rw [h]
  have k : ∀ z, FinLeast rd v z ↔ FinLeast rd v' z := fun z => by
    constructor
    · rintro ⟨m, h1, h2⟩
      cases m with
      | zero => exact absurd h1 finAt_zero
      | succ m => exact ⟨m, (e m z).1 h1, fun m' hm z' hz => h2 (m' + 1) (by omega) z' ((e m' z').2 hz)⟩
    · rintro ⟨m, h1, h2⟩
      refine ⟨m + 1, (e m z).2 h1, fun m' hm z' hz => ?_⟩
      cases m' with
      | zero => exact finAt_zero hz
      | succ m' => exact h2 m' (by omega) z' ((e m' z').1 hz)
  cases hv : finOf rd v' with
  | some z => exact finOf_iff.2 ((k z).2 (finOf_iff.1 hv))
  | none =>
    cases hv' : finOf rd v with
    | none => rfl
    | some z => rw [finOf_iff.2 ((k z).1 (finOf_iff.1 hv'))] at hv; cases hv
theorem finOf_end {V X : Type} {rd : Rd V X} {v : V} {z : X} (h : ∀ (R : Type) (k : V → Option R) (kx : X → Option R), rd v k kx = kx z) : finOf rd v = some z :=
  finOf_iff.2 ⟨1, fun R kx => by show rd v _ _ = _; rw [h], fun m' hm z' hz => by
    obtain rfl : m' = 0 := by omega
    exact finAt_zero hz⟩
/-- A formula for a loop's summary. -/
theorem finOf_of {V X : Type} {rd : Rd V X} (C : V → Option X) (μ : V → Nat) (h : ∀ v z, C v = some z → (∃ v', μ v' < μ v ∧ C v' = some z ∧ ∀ (R : Type) (k : V → Option R) (kx : X → Option R), rd v k kx = k v') ∨ ∀ (R : Type) (k : V → Option R) (kx : X → Option R), rd v k kx = kx z) : ∀ v z, C v = some z → finOf rd v = some z := by
  have key : ∀ (n : Nat) v z, μ v < n → C v = some z → finOf rd v = some z := by
    intro n
    induction n with
    | zero => intro v z hv; omega
    | succ n ih =>
      intro v z hv hz
      rcases h v z hz with ⟨v', h1, h2, h3⟩ | h3
      · rw [finOf_step h3]
        exact ih v' z (by omega) h2
      · exact finOf_end h3
  exact fun v z hz => key (μ v + 1) v z (by omega) hz
theorem ends_fin {L : Lp} {rd : Rd (VO L.s) (Xs L.xs)} (h : ∀ v, L.fin v = finOf rd v) : Ends L rd := fun v z hz => by
  rw [h] at hz
  obtain ⟨m, h1, _⟩ := finOf_iff.1 hz
  exact ⟨m, h1⟩
def loopPaths : Code → List (List Bool)
  | .seq a b => (loopPaths a).map (false :: ·) ++ (loopPaths b).map (true :: ·)
  | .cond _ a b => (loopPaths a).map (false :: ·) ++ (loopPaths b).map (true :: ·)
  | .block _ a => (loopPaths a).map (false :: ·)
  | .loop a => [false] :: (loopPaths a).map (false :: ·)
  | _ => []
theorem loopsOk_paths {E : Env} : ∀ (c : Code), (∀ p ∈ loopPaths c, LoopOk E (sub p c)) → LoopsOk E c
  | .seq a b, h => ⟨loopsOk_paths a fun p hp => h (false :: p) (by simp [loopPaths, hp]), loopsOk_paths b fun p hp => h (true :: p) (by simp [loopPaths, hp])⟩
  | .cond c a b, h => ⟨loopsOk_paths a fun p hp => h (false :: p) (by simp [loopPaths, hp]), loopsOk_paths b fun p hp => h (true :: p) (by simp [loopPaths, hp])⟩
  | .block id a, h => loopsOk_paths a fun p hp => h (false :: p) (by simp [loopPaths, hp])
  | .loop a, h => ⟨h [false] (by simp [loopPaths]), loopsOk_paths a fun p hp => h (false :: p) (by simp [loopPaths, hp])⟩
  | .skip, _ => trivial
  | .region _ _ _, _ => trivial
  | .exit _, _ => trivial
  | .ret, _ => trivial
  | .rangeFunc _ _ _ _, _ => trivial
  | .scope _, _ => trivial
  | .label _, _ => trivial
  | .goto _, _ => trivial
  | .refuse _, _ => trivial
theorem loopsOk_of {E : Env} {c : Code} {l : List (List Bool)} (hl : loopPaths c = l) (h : ∀ p ∈ l, LoopOk E (sub p c)) : LoopsOk E c := loopsOk_paths c (fun p hp => h p (hl ▸ hp))
theorem wr {n : Int} (h1 : -9223372036854775808 ≤ n) (h2 : n ≤ 9223372036854775807) : IntKind.wrap .i64 n = n := by
  rw [IntKind.wrap_i64]; omega
theorem drop_getD {α : Type} (d : α) (l : List α) (i : Nat) (h : i < l.length) : l.drop i = l.getD i d :: l.drop (i + 1) := by
  rw [List.drop_eq_getElem_cons h]
  simp [List.getD, h]
theorem mem_getD {α : Type} (d : α) (l : List α) (i : Nat) (h : i < l.length) : l.getD i d ∈ l := by
  simp [List.getD, h]
end Go.Proofs.Ythbojpaghbbnnaa.Z
