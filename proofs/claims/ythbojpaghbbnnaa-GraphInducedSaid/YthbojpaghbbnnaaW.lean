/- What Parts tells: of each kept vertex the least one that a way through kept ones leads to. Plain laws; no program. -/
import Derived.Test.YthbojpaghbbnnaaV
import Derived.Test.YthbojpaghbbnnaaI
namespace Go.Proofs.Ythbojpaghbbnnaa
set_option linter.unusedVariables false
set_option linter.unusedSimpArgs false

/-- b stands at the end of a way from a through vertices of K. -/
inductive Con (G : Gr) (K : Nat → Bool) (a : Nat) : Nat → Prop
  | here : Con G K a a
  | step {x y : Nat} : Con G K a x → G.adj x y = true → K y = true → Con G K a y
/-- All labels are below B, all kept vertices below D have one; T: the pairs still to be looked at. -/
structure PInv (G : Gr) (K : Nat → Bool) (B D : Nat) (p : List Int) (T : Nat → Nat → Prop) : Prop where
  len : p.length = G.n
  lab : ∀ (x : Nat) (a : Int), p[x]? = some a → a = -1 ∨ ∃ r : Nat, a = r ∧ r ≤ x ∧ r < B ∧ K r = true ∧ K x = true ∧ Con G K r x ∧ p[r]? = some (r : Int)
  don : ∀ x, x < G.n → x < D → K x = true → p[x]? ≠ some (-1)
  clo : ∀ x y, K x = true → K y = true → G.adj x y = true → p[x]? ≠ some (-1) → p[y]? = p[x]? ∨ T x y
def Parted (G : Gr) (K : Nat → Bool) (p : List Int) : Prop := PInv G K G.n G.n p (fun _ _ => False)
variable {G : Gr} {K : Nat → Bool} {B D v : Nat} {p : List Int} {T : Nat → Nat → Prop}
theorem PInv.start {G : Gr} (hG : G.Ok) (K : Nat → Bool) : PInv G K 0 0 (List.replicate G.n (-1)) (fun _ _ => False) where
  len := by simp
  lab x a h := by
    rw [List.getElem?_replicate] at h
    split at h
    · injection h with h; exact .inl h.symm
    · cases h
  don x _ h := by omega
  clo x y _ _ hk hx := by
    rw [List.getElem?_replicate, if_pos (hG.rng x y hk)] at hx
    exact absurd rfl hx
theorem PInv.weak {T' : Nat → Nat → Prop} (h : PInv G K B D p T) (ht : ∀ x y, K x = true → K y = true → G.adj x y = true → p[x]? ≠ some (-1) → T x y → p[y]? = p[x]? ∨ T' x y) : PInv G K B D p T' :=
  ⟨h.len, h.lab, h.don, fun x y h1 h2 h3 h4 => (h.clo x y h1 h2 h3 h4).elim .inl (ht x y h1 h2 h3 h4)⟩
theorem PInv.skip (h : PInv G K B D p T) (hd : K D = true → p[D]? ≠ some (-1)) : PInv G K (B + 1) (D + 1) p T where
  len := h.len
  lab x a k := (h.lab x a k).imp id (fun ⟨r, h1, h2, h3, h4⟩ => ⟨r, h1, h2, by omega, h4⟩)
  don x hn hx hk := by
    rcases Nat.lt_or_ge x D with h1 | h1
    · exact h.don x hn h1 hk
    · have : x = D := by omega
      subst this; exact hd hk
  clo := h.clo
theorem PInv.label {B' r w : Nat} (h : PInv G K B D p T) (hB : B ≤ B') (hw : p[w]? = some (-1)) (hr : r < B') (hrw : r ≤ w) (hKr : K r = true) (hKw : K w = true) (hc : Con G K r w) (hp : r = w ∨ p[r]? = some (r : Int)) :
    PInv G K B' D (p.set w r) (fun x y => T x y ∨ x = w) where
  len := by rw [List.length_set, h.len]
  lab x a k := by
    have hlt : w < p.length := (List.getElem?_eq_some_iff.1 hw).1
    by_cases e : w = x
    · subst e
      rw [get_set_eq _ hlt] at k
      injection k with k
      refine .inr ⟨r, k.symm, hrw, hr, hKr, hKw, hc, ?_⟩
      rcases hp with rfl | hp
      · exact get_set_eq _ hlt
      · by_cases e2 : w = r
        · subst e2; exact get_set_eq _ hlt
        · rw [get_set_ne _ e2]; exact hp
    · rw [get_set_ne _ e] at k
      refine (h.lab x a k).imp id (fun ⟨s, h1, h2, h3, h4, h5, h6, h7⟩ => ⟨s, h1, h2, by omega, h4, h5, h6, ?_⟩)
      have : w ≠ s := fun e => by subst e; rw [hw] at h7; injection h7 with h7; omega
      rw [get_set_ne _ this]; exact h7
  don x hn hx hk := by
    have hlt : w < p.length := (List.getElem?_eq_some_iff.1 hw).1
    by_cases e : w = x
    · subst e; rw [get_set_eq _ hlt]; intro k; injection k with k; omega
    · rw [get_set_ne _ e]; exact h.don x hn hx hk
  clo x y h1 h2 h3 h4 := by
    have hlt : w < p.length := (List.getElem?_eq_some_iff.1 hw).1
    by_cases e : w = x
    · exact .inr (.inr e.symm)
    · rw [get_set_ne _ e] at h4 ⊢
      rcases h.clo x y h1 h2 h3 h4 with k | k
      · have : w ≠ y := fun e => by subst e; rw [hw] at k; exact h4 k.symm
        rw [get_set_ne _ this]; exact .inl k
      · exact .inr (.inl k)
theorem Parted.con (h : Parted G K p) {r x : Nat} (hr : K r = true) (hn : p[r]? ≠ some (-1)) (hc : Con G K r x) : K x = true ∧ p[x]? = p[r]? := by
  induction hc with
  | here => exact ⟨hr, rfl⟩
  | step _ hk hy ih =>
    refine ⟨hy, ?_⟩
    rcases h.clo _ _ ih.1 hy hk (by rw [ih.2]; exact hn) with k | k
    · rw [k, ih.2]
    · exact absurd k id
theorem Parted.uniq {q : List Int} (h : Parted G K p) (k : Parted G K q) : p = q := by
  refine List.ext_getElem? (fun x => ?_)
  rcases Nat.lt_or_ge x G.n with hx | hx
  · obtain ⟨a, ha⟩ : ∃ a, p[x]? = some a := ⟨_, List.getElem?_eq_getElem (by rw [h.len]; exact hx)⟩
    obtain ⟨b, hb⟩ : ∃ b, q[x]? = some b := ⟨_, List.getElem?_eq_getElem (by rw [k.len]; exact hx)⟩
    by_cases hk : K x = true
    · have h1 := h.don x hx hx hk
      have h2 := k.don x hx hx hk
      rcases h.lab x a ha with rfl | ⟨r, rfl, r1, r2, r3, r4, r5, r6⟩
      · exact absurd ha h1
      · rcases k.lab x b hb with rfl | ⟨s, rfl, s1, s2, s3, s4, s5, s6⟩
        · exact absurd hb h2
        · have e1 := (h.con s3 (h.don s s2 s2 s3) s5).2
          have e2 := (k.con r3 (k.don r r2 r2 r3) r5).2
          rw [ha] at e1
          rw [hb] at e2
          have g1 : r ≤ s := by
            rcases h.lab s _ e1.symm with e | ⟨t, e, t1, _⟩
            · omega
            · omega
          have g2 : s ≤ r := by
            rcases k.lab r _ e2.symm with e | ⟨t, e, t1, _⟩
            · omega
            · omega
          rw [ha, hb, Nat.le_antisymm g1 g2]
    · have e1 : a = -1 := (h.lab x a ha).elim id (fun ⟨r, _, _, _, _, h5, _⟩ => absurd h5 hk)
      have e2 : b = -1 := (k.lab x b hb).elim id (fun ⟨r, _, _, _, _, h5, _⟩ => absurd h5 hk)
      rw [ha, hb, e1, e2]
  · rw [List.getElem?_eq_none (by rw [h.len]; exact hx), List.getElem?_eq_none (by rw [k.len]; exact hx)]
def cnt (p : List Int) : Nat := p.count (-1)
theorem cnt_set {p : List Int} {w : Nat} {r : Int} (h : p[w]? = some (-1)) (hr : r ≠ -1) : cnt (p.set w r) + 1 = cnt p := by
  induction p generalizing w with
  | nil => cases h
  | cons a p ih =>
    unfold cnt at *
    cases w with
    | zero =>
      rw [List.getElem?_cons_zero] at h
      injection h with h
      subst h
      rw [List.set_cons_zero, List.count_cons_of_ne hr, List.count_cons_self]
    | succ w =>
      rw [List.getElem?_cons_succ] at h
      have := ih h
      rw [List.set_cons_succ, List.count_cons, List.count_cons]
      omega
theorem cnt_le (p : List Int) : cnt p ≤ p.length := List.count_le_length
/-- Between two rounds of a root's search: what stands in todo is still to be looked at. -/
structure Srch (G : Gr) (K : Nat → Bool) (v : Nat) (p : List Int) (todo : List Int) (T : Nat → Nat → Prop) : Prop where
  inv : PInv G K (v + 1) (v + 1) p (fun x y => (x : Int) ∈ todo ∨ T x y)
  vn : v < G.n
  pv : p[v]? = some (v : Int)
  kv : K v = true
  tds : ∀ t ∈ todo, ∃ x : Nat, t = x ∧ x < G.n ∧ p[x]? = some (v : Int)
  few : 2 * cnt p + todo.length ≤ 2 * G.n + 1
def Next (G : Gr) (u k : Nat) (x y : Nat) : Prop := x = u ∧ y ∈ (G.nb u).drop k
theorem Srch.root (h : PInv G K v v p (fun _ _ => False)) (hv : v < G.n) (hp : p[v]? = some (-1)) (hk : K v = true) : Srch G K v (p.set v v) [(v : Int)] (fun _ _ => False) := by
  have hlt : v < p.length := (List.getElem?_eq_some_iff.1 hp).1
  have h1 := h.label (B' := v + 1) (r := v) (by omega) hp (by omega) (Nat.le_refl _) hk hk .here (.inl rfl)
  have hpv : (p.set v (v : Int))[v]? = some (v : Int) := get_set_eq _ hlt
  have hc := cnt_set (r := (v : Int)) hp (by omega)
  have hl := cnt_le p
  rw [h.len] at hl
  refine ⟨⟨h1.len, h1.lab, fun x hn hx hk => ?_, fun x y a b c d => (h1.clo x y a b c d).imp id (fun k => ?_)⟩, hv, hpv, hk, ?_, by simp; omega⟩
  · rcases Nat.lt_or_ge x v with h2 | h2
    · exact h1.don x hn h2 hk
    · have : x = v := by omega
      subst this
      rw [hpv]; intro k; injection k with k; omega
  · rcases k with k | k
    · exact absurd k id
    · subst k; exact .inl (by simp)
  · intro t ht
    rw [List.mem_singleton] at ht
    exact ⟨v, ht, hv, hpv⟩
theorem Srch.lab_u {v u : Nat} {todo : List Int} (h : Srch G K v p todo T) (hu : p[u]? = some (v : Int)) : K u = true ∧ Con G K v u := by
  rcases h.inv.lab u _ hu with e | ⟨r, e, _, _, _, h5, h6, _⟩
  · omega
  · have : r = v := by omega
    subst this
    exact ⟨h5, h6⟩
theorem Srch.pop {v u : Nat} {todo : List Int} (hG : G.Ok) (h : Srch G K v p (todo ++ [(u : Int)]) (fun _ _ => False)) : Srch G K v p todo (Next G u 0) ∧ u < G.n ∧ p[u]? = some (v : Int) := by
  obtain ⟨x, hx, hxn, hxp⟩ := h.tds (u : Int) (by simp)
  have : x = u := by omega
  subst this
  refine ⟨⟨h.inv.weak (fun a b h1 h2 h3 h4 k => .inr ?_), h.vn, h.pv, h.kv, fun t ht => h.tds t (by simp [ht]), ?_⟩, hxn, hxp⟩
  · rcases k with k | k
    · rcases List.mem_append.1 k with k | k
      · exact .inl k
      · rw [List.mem_singleton] at k
        have : a = x := by omega
        subst this
        exact .inr ⟨rfl, by rw [List.drop_zero]; exact (Gr.mem_nb hG).2 h3⟩
    · exact absurd k id
  · have := h.few
    simp at this
    omega
theorem next_split {u k w x y : Nat} (hw : (G.nb u)[k]? = some w) (h : Next G u k x y) : (x = u ∧ y = w) ∨ Next G u (k + 1) x y := by
  obtain ⟨rfl, h⟩ := h
  obtain ⟨hlt, e⟩ := List.getElem?_eq_some_iff.1 hw
  rw [List.drop_eq_getElem_cons hlt, e] at h
  rcases List.mem_cons.1 h with rfl | h
  · exact .inl ⟨rfl, rfl⟩
  · exact .inr ⟨rfl, h⟩
theorem Srch.pass {v u k w : Nat} {todo : List Int} (hG : G.Ok) (h : Srch G K v p todo (Next G u k)) (hu : p[u]? = some (v : Int)) (hw : (G.nb u)[k]? = some w) (hno : K w = true → p[w]? ≠ some (-1)) : Srch G K v p todo (Next G u (k + 1)) := by
  have hadj : G.adj u w = true := (Gr.mem_nb hG).1 (List.mem_of_getElem? hw)
  refine ⟨h.inv.weak (fun a b h1 h2 h3 h4 q => ?_), h.vn, h.pv, h.kv, h.tds, h.few⟩
  rcases q with q | q
  · exact .inr (.inl q)
  · rcases next_split hw q with ⟨rfl, rfl⟩ | q
    · refine .inl ?_
      rcases h.inv.clo b a h2 h1 (by rw [hG.symm]; exact hadj) (hno h2) with q | q | ⟨q, _⟩
      · exact q.symm
      · obtain ⟨x, hx, _, hxp⟩ := h.tds _ q
        have : x = b := by omega
        subst this
        rw [hxp, hu]
      · subst q; exact absurd hadj (by rw [hG.irr]; simp)
    · exact .inr (.inr q)
theorem Srch.push {v u k w : Nat} {todo : List Int} (hG : G.Ok) (h : Srch G K v p todo (Next G u k)) (hu : p[u]? = some (v : Int)) (hw : (G.nb u)[k]? = some w) (hk : K w = true) (hp : p[w]? = some (-1)) :
    Srch G K v (p.set w v) (todo ++ [(w : Int)]) (Next G u (k + 1)) ∧ (p.set w (v : Int))[u]? = some (v : Int) := by
  have hadj : G.adj u w = true := (Gr.mem_nb hG).1 (List.mem_of_getElem? hw)
  have hlt : w < p.length := (List.getElem?_eq_some_iff.1 hp).1
  have hwn : w < G.n := by rw [← h.inv.len]; exact hlt
  obtain ⟨hKu, hCu⟩ := h.lab_u hu
  have hvw : v ≤ w := by
    rcases Nat.lt_or_ge w (v + 1) with h1 | h1
    · exact absurd hp (h.inv.don w hwn h1 hk)
    · omega
  have hne : ∀ x, p[x]? = some (v : Int) → w ≠ x := fun x hx e => by subst e; rw [hp] at hx; injection hx with hx; omega
  have hset : ∀ x, p[x]? = some (v : Int) → (p.set w (v : Int))[x]? = some (v : Int) := fun x hx => by rw [get_set_ne _ (hne x hx)]; exact hx
  have h1 := h.inv.label (B' := v + 1) (r := v) (Nat.le_refl _) hp (by omega) hvw h.kv hk (.step hCu hadj hk) (.inr h.pv)
  have hc := cnt_set (r := (v : Int)) hp (by omega)
  refine ⟨⟨h1.weak (fun a b g1 g2 g3 g4 q => ?_), h.vn, hset v h.pv, h.kv, fun t ht => ?_, ?_⟩, hset u hu⟩
  · rcases q with (q | q) | q
    · exact .inr (.inl (List.mem_append.2 (.inl q)))
    · rcases next_split hw q with ⟨rfl, rfl⟩ | q
      · refine .inl ?_
        rw [hset a hu, get_set_eq _ hlt]
      · exact .inr (.inr q)
    · subst q; exact .inr (.inl (by simp))
  · rcases List.mem_append.1 ht with ht | ht
    · obtain ⟨x, e, hx, hxp⟩ := h.tds t ht
      exact ⟨x, e, hx, hset x hxp⟩
    · rw [List.mem_singleton] at ht
      exact ⟨w, ht, hwn, get_set_eq _ hlt⟩
  · have := h.few
    simp
    omega
theorem Srch.rest {v u k : Nat} {todo : List Int} (h : Srch G K v p todo (Next G u k)) (hk : (G.nb u).length ≤ k) : Srch G K v p todo (fun _ _ => False) := by
  refine ⟨h.inv.weak (fun a b h1 h2 h3 h4 q => .inr (q.imp id (fun q => ?_))), h.vn, h.pv, h.kv, h.tds, h.few⟩
  have := q.2
  rw [List.drop_eq_nil_of_le hk] at this
  cases this
theorem Srch.over {v : Nat} (h : Srch G K v p [] (fun _ _ => False)) : PInv G K (v + 1) (v + 1) p (fun _ _ => False) :=
  h.inv.weak (fun a b h1 h2 h3 h4 q => q.elim (fun q => by cases q) (fun q => absurd q id))
end Go.Proofs.Ythbojpaghbbnnaa
