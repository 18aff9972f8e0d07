/- Package graph's functions as plain functions of the small machine: from the contracts of templates D to X. No condition. -/
import Derived.Test.YthbojpaghbbnnaaZT
import Derived.Test.YthbojpaghbbnnaaX
import Derived.Test.YthbojpaghbbnnaaT
import Derived.Test.YthbojpaghbbnnaaS
namespace Go.Proofs.Ythbojpaghbbnnaa.Z
open Go Go.RowKit
set_option linter.unusedVariables false
set_option linter.unusedSimpArgs false

/-- The document's graph G in memory. -/
def PRG (w : World) (lo hi : Nat) (v : Value) (G : Gr) : Prop :=
  G.Ok ∧ hi ≤ w.heap.size ∧ ∃ b t c, v = .pointer (some ⟨b, 0, none⟩) ∧ lo ≤ b ∧ b < hi ∧ w.heap[b]? = some (.cells #[.slice t G.n c] 126 (0, 0)) ∧
    Rows2 w lo hi (.slice t G.n c) G.n (fun u => up (G.nb u))
theorem PRG.frame {w w' : World} {lo hi : Nat} {v : Value} {G : Gr} (h : PRG w lo hi v G) (s : Same lo hi w w') : PRG w' lo hi v G := by
  obtain ⟨h0, h1, b, t, c, h2, h3, h4, h5, h6⟩ := h
  exact ⟨h0, Nat.le_trans h1 s.1, b, t, c, h2, h3, h4, (s.2 b h3 h4).trans h5, h6.frame s⟩
def rho : Obs := fun n => match n with
  | 0 => fun w v G => ∃ lo hi, PG w lo hi v G
  | _ => fun _ _ _ => False
theorem tr0 {U : Nat → Prop} {hd : Nat → Value} (w : World) : Tr (Us U 0 hd) w U w := fun _ k => k.mono (fun _ _ h => .inl h)
theorem tr0' {U : Nat → Prop} {hd : Nat → Value} (w : World) : Tr U w (Us U 0 hd) w := fun _ k => k.mono (fun _ _ h => h.elim id (fun ⟨i, hi, _⟩ => absurd hi (Nat.not_lt_zero i)))
theorem apart0 (hd : Nat → Value) : Apart 0 hd := fun i _ hi => absurd hi (Nat.not_lt_zero i)
section
variable {ρ : Obs} {P : Program} {f : FuncId}
def Res1 (ρ : Obs) (U : Nat → Prop) (w : World) (r : T) (y : r.den) (e : Ending) (w' : World) : Prop := Below w.heap.size w w' ∧ ∃ u, e = .returned u ∧ IRd ρ U w' r u y
def Res2 (ρ : Obs) (U : Nat → Prop) (w : World) (r s : T) (y : r.den) (z : s.den) (e : Ending) (w' : World) : Prop := Below w.heap.size w w' ∧ ∃ u v, e = .returned (.tuple #[u, v]) ∧ IRd ρ U w' r u y ∧ IRd ρ U w' s v z
theorem sound11 {fr : Bool} {t0 r0 : T} {pre : t0.den → Bool} {fn : t0.den → r0.den × Unit} (h : ∀ x0, pre x0 = true → ∀ w U U' v0, (∀ b, U' b → b < w.heap.size) → IRd ρ U w t0 v0 x0 → Calls P f #[v0] w (Res1 ρ U' w r0 (fn x0).1)) :
    Sound P ρ f ⟨[.val t0], [.val r0], fun d => match d with | (x0, _) => pre x0, fun d => match d with | (x0, _) => fn x0, fr⟩ := by
  intro d hp w U0 U1 hd0 vs hu hu1 hfr hap ha
  obtain ⟨x0, _⟩ := d
  match vs, ha with
  | [v0], ⟨h0, _⟩ =>
    refine (h x0 hp w U0 U1 v0 (fun b hb => (hu1 b hb).1) (h0.tr (tr0 w))).mono ?_
    rintro e w' ⟨hb, u, rfl, hr⟩
    exact ⟨[u], hd0, rfl, Ag.of_below hb _, fun _ hi => absurd hi (Nat.not_lt_zero _), fun _ hi => absurd hi (Nat.not_lt_zero _), apart0 _, trivial, hr.tr (tr0' w'), trivial⟩
theorem sound21 {fr : Bool} {t0 t1 r0 : T} {pre : t0.den → t1.den → Bool} {fn : t0.den → t1.den → r0.den × Unit} (h : ∀ x0 x1, pre x0 x1 = true → ∀ w U U' v0 v1, (∀ b, U' b → b < w.heap.size) → IRd ρ U w t0 v0 x0 → IRd ρ U w t1 v1 x1 → Calls P f #[v0, v1] w (Res1 ρ U' w r0 (fn x0 x1).1)) :
    Sound P ρ f ⟨[.val t0, .val t1], [.val r0], fun d => match d with | (x0, x1, _) => pre x0 x1, fun d => match d with | (x0, x1, _) => fn x0 x1, fr⟩ := by
  intro d hp w U0 U1 hd0 vs hu hu1 hfr hap ha
  obtain ⟨x0, x1, _⟩ := d
  match vs, ha with
  | [v0, v1], ⟨h0, h1, _⟩ =>
    refine (h x0 x1 hp w U0 U1 v0 v1 (fun b hb => (hu1 b hb).1) (h0.tr (tr0 w)) (h1.tr (tr0 w))).mono ?_
    rintro e w' ⟨hb, u, rfl, hr⟩
    exact ⟨[u], hd0, rfl, Ag.of_below hb _, fun _ hi => absurd hi (Nat.not_lt_zero _), fun _ hi => absurd hi (Nat.not_lt_zero _), apart0 _, trivial, hr.tr (tr0' w'), trivial⟩
theorem sound31 {fr : Bool} {t0 t1 t2 r0 : T} {pre : t0.den → t1.den → t2.den → Bool} {fn : t0.den → t1.den → t2.den → r0.den × Unit} (h : ∀ x0 x1 x2, pre x0 x1 x2 = true → ∀ w U U' v0 v1 v2, (∀ b, U' b → b < w.heap.size) → IRd ρ U w t0 v0 x0 → IRd ρ U w t1 v1 x1 → IRd ρ U w t2 v2 x2 → Calls P f #[v0, v1, v2] w (Res1 ρ U' w r0 (fn x0 x1 x2).1)) :
    Sound P ρ f ⟨[.val t0, .val t1, .val t2], [.val r0], fun d => match d with | (x0, x1, x2, _) => pre x0 x1 x2, fun d => match d with | (x0, x1, x2, _) => fn x0 x1 x2, fr⟩ := by
  intro d hp w U0 U1 hd0 vs hu hu1 hfr hap ha
  obtain ⟨x0, x1, x2, _⟩ := d
  match vs, ha with
  | [v0, v1, v2], ⟨h0, h1, h2, _⟩ =>
    refine (h x0 x1 x2 hp w U0 U1 v0 v1 v2 (fun b hb => (hu1 b hb).1) (h0.tr (tr0 w)) (h1.tr (tr0 w)) (h2.tr (tr0 w))).mono ?_
    rintro e w' ⟨hb, u, rfl, hr⟩
    exact ⟨[u], hd0, rfl, Ag.of_below hb _, fun _ hi => absurd hi (Nat.not_lt_zero _), fun _ hi => absurd hi (Nat.not_lt_zero _), apart0 _, trivial, hr.tr (tr0' w'), trivial⟩
theorem sound22 {fr : Bool} {t0 t1 r0 r1 : T} {pre : t0.den → t1.den → Bool} {fn : t0.den → t1.den → r0.den × r1.den × Unit} (h : ∀ x0 x1, pre x0 x1 = true → ∀ w U U' v0 v1, (∀ b, U' b → b < w.heap.size) → IRd ρ U w t0 v0 x0 → IRd ρ U w t1 v1 x1 → Calls P f #[v0, v1] w (Res2 ρ U' w r0 r1 (fn x0 x1).1 (fn x0 x1).2.1)) :
    Sound P ρ f ⟨[.val t0, .val t1], [.val r0, .val r1], fun d => match d with | (x0, x1, _) => pre x0 x1, fun d => match d with | (x0, x1, _) => fn x0 x1, fr⟩ := by
  intro d hp w U0 U1 hd0 vs hu hu1 hfr hap ha
  obtain ⟨x0, x1, _⟩ := d
  match vs, ha with
  | [v0, v1], ⟨h0, h1, _⟩ =>
    refine (h x0 x1 hp w U0 U1 v0 v1 (fun b hb => (hu1 b hb).1) (h0.tr (tr0 w)) (h1.tr (tr0 w))).mono ?_
    rintro e w' ⟨hb, u, v, rfl, hr, hs⟩
    exact ⟨[u, v], hd0, rfl, Ag.of_below hb _, fun _ hi => absurd hi (Nat.not_lt_zero _), fun _ hi => absurd hi (Nat.not_lt_zero _), apart0 _, trivial, hr.tr (tr0' w'), hs.tr (tr0' w'), trivial⟩
end
/-! ### From the machine's words to those of the contracts, and back -/
section
variable {ρ : Obs} {U : Nat → Prop} {w : World}
theorem cell_lt {a : Addr} {v : Value} (h : w.cell? a = some v) : a.block < w.heap.size := by
  unfold World.cell? at h
  split at h
  · rename_i hb
    exact (Array.getElem?_eq_some_iff.1 hb).1
  · cases h
theorem els_flat {α : Type} {Q : List Value → α → Prop} {enc : α → List Value} (he : ∀ c x, Q c x → c = enc x) : ∀ {ds : List Value} {xs : List α}, Els Q ds xs → ds = xs.flatMap enc
  | _, [], h => h
  | _, x :: xs, ⟨c, r, e, hq, hr⟩ => by rw [e, he _ _ hq, els_flat he hr, List.flatMap_cons]
theorem flat_els {α : Type} {Q : List Value → α → Prop} {enc : α → List Value} (he : ∀ x, Q (enc x) x) : ∀ xs : List α, Els Q (xs.flatMap enc) xs
  | [] => rfl
  | x :: xs => ⟨enc x, _, List.flatMap_cons, he x, flat_els he xs⟩
theorem sl_in {t : T} {enc : t.den → List Value} (he : ∀ cs x, ICs ρ U w t cs x → cs = enc x) {v : Value} {xs : List t.den} (h : IRd ρ U w (.list t) v xs) : Sl w 0 w.heap.size t.size v xs.length (xs.flatMap enc) := by
  obtain ⟨cs, rfl, A, c, ds, rfl, h1, h2, h3, h4⟩ := h
  have hlen : ds.length = xs.length * t.size := Els.length (fun c x q => ICs.length q) h3
  have hds := els_flat he h3
  subst hds
  refine ⟨Nat.le_refl _, hlen, h1, A, c, rfl, fun hn => ?_⟩
  obtain ⟨b, off, rfl, h5⟩ := h4 hn
  have h6 := h5 w (Ag.refl _ _)
  have hp : 0 < (xs.flatMap enc).length := by rw [hlen]; exact Nat.mul_pos hn (T.size_pos t)
  refine ⟨b, off, rfl, Nat.zero_le _, ?_, fun j hj => h6 j (by rw [hlen]; exact hj)⟩
  have := h6 0 hp
  rw [List.getElem?_eq_getElem hp] at this
  exact cell_lt this
theorem flat_one {α : Type} (f : α → Value) (xs : List α) : xs.flatMap (fun x => [f x]) = xs.map f := by
  induction xs with
  | nil => rfl
  | cons x xs ih => rw [List.flatMap_cons, ih]; rfl
theorem ints_in {v : Value} {xs : List Int} (h : IRd ρ U w (.list I64) v xs) : Ints w 0 w.heap.size v xs := by
  have := sl_in (t := I64) (enc := fun x : Int => [Value.int .i64 x]) (fun _ _ h => h) h
  rw [flat_one] at this
  exact this
theorem bools_in {v : Value} {xs : List Bool} (h : IRd ρ U w (.list .bool) v xs) : Bools w 0 w.heap.size v xs := by
  have := sl_in (t := .bool) (enc := fun x : Bool => [Value.bool x]) (fun _ _ h => h) h
  rw [flat_one] at this
  exact this
theorem ics_pr {cs : List Value} {x : Int × Int} : ICs ρ U w Pr cs x ↔ cs = encP x := by
  constructor
  · rintro ⟨c, d, rfl, rfl, rfl⟩; rfl
  · rintro rfl; exact ⟨[_], [_], rfl, rfl, rfl⟩
theorem prs_in {v : Value} {xs : List (Int × Int)} (h : IRd ρ U w (.list Pr) v xs) : Prs w 0 w.heap.size v xs := sl_in (t := Pr) (enc := encP) (fun _ _ h => ics_pr.1 h) h
abbrev Cg : T := .pair I64 (.pair I64 .bool)
def toC (c : Int × Int × Bool) : Chg := ((c.1, c.2.1), c.2.2)
theorem ics_cg {cs : List Value} {x : Int × Int × Bool} : ICs ρ U w Cg cs x ↔ cs = encC (toC x) := by
  constructor
  · rintro ⟨c, d, rfl, rfl, e, f, rfl, rfl, rfl⟩; rfl
  · rintro rfl; exact ⟨[_], [_, _], rfl, rfl, [_], [_], rfl, rfl, rfl⟩
theorem flat_map' {α β : Type} (f : α → β) (enc : β → List Value) (xs : List α) : xs.flatMap (fun x => enc (f x)) = (xs.map f).flatMap enc := by
  induction xs with
  | nil => rfl
  | cons x xs ih => rw [List.flatMap_cons, ih]; rfl
theorem chs_in {v : Value} {xs : List (Int × Int × Bool)} (h : IRd ρ U w (.list Cg) v xs) : Chs w 0 w.heap.size v (xs.map toC) := by
  have := sl_in (t := Cg) (enc := fun x => encC (toC x)) (fun _ _ h => ics_cg.1 h) h
  rw [flat_map'] at this
  show Sl _ _ _ _ _ _ _
  rw [List.length_map]
  exact this
theorem pg_in {v : Value} {g : Option Gr} (h : IRd rho U w (.obj 0) v g) (hg : g.isSome = true) : ∃ G lo hi, g = some G ∧ PG w lo hi v G := by
  obtain ⟨cs, rfl, v, rfl, h⟩ := h
  cases g with
  | none => cases hg
  | some G =>
    obtain ⟨_, h2⟩ := h
    obtain ⟨lo, hi, h3⟩ := h2 w (Ag.refl _ _)
    exact ⟨G, lo, hi, rfl, h3⟩
theorem same_ag {lo hi : Nat} {w' : World} (h : Ag U w w') (hU : ∀ b, U b → b < lo) (hh : hi ≤ w.heap.size) : Same lo hi w w' := ⟨h.size, fun b h1 h2 => h.block b (by omega) (fun hb => by have := hU b hb; omega)⟩
theorem pg_out {v : Value} {G : Gr} {lo hi : Nat} (h : PG w lo hi v G) (hU : ∀ b, U b → b < lo) : IRd rho U w (.obj 0) v (some G) := by
  obtain ⟨_, _, b, _, _, _, _, rfl, _⟩ := id h
  exact ⟨[_], rfl, _, rfl, ⟨_, rfl⟩, fun w' ha => ⟨lo, hi, h.frame (same_ag ha hU h.2.1)⟩⟩
theorem nil_out {n : Nat} : IRd ρ U w (.obj n) (.pointer none) none := ⟨[_], rfl, _, rfl, rfl⟩
theorem int_out {k : IntKind} (x : Int) : IRd ρ U w (.int k) (.int k x) x := ⟨[_], rfl, rfl⟩
theorem bool_out (x : Bool) : IRd ρ U w .bool (.bool x) x := ⟨[_], rfl, rfl⟩
/-- A fresh row as a value. -/
theorem row_out {t : T} {e : TypeId} {base n : Nat} {v : Value} {cs : List Value} {xs : List t.den} (h : w.ownsRow base e t.size v n cs) (hn : n = xs.length) (he : Els (ICs ρ U w t) cs xs) (hU : ∀ b, U b → b < base) : IRd ρ U w (.list t) v xs := by
  subst hn
  have hs := sl_own h
  obtain ⟨_, h1, h2, A, c, rfl, h3⟩ := hs
  refine ⟨[_], rfl, A, c, cs, rfl, h2, ?_, he, fun hp => ?_⟩
  · rcases h.2 with ⟨e1, _⟩ | ⟨g, cap, cur, e1, _, _, h5, _⟩
    · injection e1 with e1 e2 e3
      omega
    · injection e1 with e1 e2 e3
      omega
  · obtain ⟨b, off, rfl, h4, h5, h6⟩ := h3 hp
    refine ⟨b, off, rfl, fun w' ha j hj => ?_⟩
    rw [World.cell?_of_block (ha.block b h5 (fun hb => by have := hU b hb; omega))]
    exact h6 j (by omega)
theorem row_flat {t : T} {enc : t.den → List Value} (he : ∀ x, ICs ρ U w t (enc x) x) {e : TypeId} {base n : Nat} {v : Value} {xs : List t.den} (h : w.ownsRow base e t.size v n (xs.flatMap enc)) (hn : n = xs.length) (hU : ∀ b, U b → b < base) : IRd ρ U w (.list t) v xs :=
  row_out h hn (flat_els he xs) hU
theorem ints_out {base n : Nat} {v : Value} {xs : List Int} (h : w.ownsRow base 3 1 v n (xs.map (Value.int .i64))) (hn : n = xs.length) (hU : ∀ b, U b → b < base) : IRd ρ U w (.list I64) v xs := by
  rw [← flat_one] at h
  exact row_flat (t := I64) (enc := fun x : Int => [Value.int .i64 x]) (fun _ => rfl) h hn hU
theorem prs_out {base n : Nat} {v : Value} {xs : List (Int × Int)} (h : w.ownsRow base 32 2 v n (xs.flatMap encP)) (hn : n = xs.length) (hU : ∀ b, U b → b < base) : IRd ρ U w (.list Pr) v xs :=
  row_flat (t := Pr) (enc := encP) (fun _ => ics_pr.2 rfl) h hn hU
theorem lists_out {base : Nat} {v : Value} {L : List (Int × List Int)} (h : OwnL w base v L) (hU : ∀ b, U b → b < base) : IRd ρ U w (.list (.pair I64 (.list I64))) v L := by
  obtain ⟨vs, h1, h2, h3⟩ := h
  refine row_out (t := .pair I64 (.list I64)) h2 rfl ?_ hU
  clear h2
  induction L generalizing vs with
  | nil => cases vs with
    | nil => rfl
    | cons x vs => simp at h1
  | cons p L ih => cases vs with
    | nil => simp at h1
    | cons x vs =>
      refine ⟨[.int .i64 p.1, x], mixL L vs, rfl, ?_, ih vs (by simpa using h1) (fun i p x a b => h3 (i + 1) p x (by simpa using a) (by simpa using b))⟩
      have h4 := h3 0 p x rfl rfl
      obtain ⟨cs, e, h5⟩ := ints_out (ρ := ρ) (U := U) h4 rfl hU
      obtain ⟨A, c, ds, rfl, h6⟩ := h5
      exact ⟨[_], [x], rfl, rfl, A, c, ds, by rw [e]; rfl, h6⟩
end
/-! ### The functions -/
def gr (g : Option Gr) : Gr := g.getD ⟨0, fun _ _ => false⟩
theorem gr_some (G : Gr) : gr (some G) = G := rfl
def wf (x : Int) : Bool := decide (-9223372036854775808 ≤ x) && decide (x ≤ 9223372036854775807)
theorem wf_iff {x : Int} : wf x = true ↔ Wf x := by simp [wf, Wf]
namespace N
abbrev ps : List PM := [.val (.obj 0)]
abbrev rs : List PM := [.val I64]
noncomputable def pre (g : Option Gr) : Bool := g.isSome
noncomputable def fn (g : Option Gr) : Int × Unit := (((gr g).n : Int), ())
noncomputable def sig : Sig := ⟨ps, rs, fun d => match d with
  | (g, _) => pre g, fun d => match d with
  | (g, _) => fn g, true⟩
theorem sound : Sound Try.prog rho 93 sig := sound11 (fun (g : Option Gr) hp w U U' v0 hU h0 => by
  obtain ⟨G, lo, hi, rfl, hG⟩ := pg_in h0 hp
  refine (N_any w hG).mono ?_
  rintro e w' ⟨rfl, rfl⟩
  exact ⟨Below.refl _ _, _, rfl, int_out _⟩)
theorem enters : Enters Try.prog 93 := enters_of (fn := Try.f93) (by kernel_rfl) (by kernel_rfl) (by kernel_rfl)
theorem okR : Enters Try.prog 93 ∧ Sound Try.prog rho 93 sig := ⟨enters, sound⟩
end N
namespace Edges
abbrev ps : List PM := [.val (.obj 0)]
abbrev rs : List PM := [.val I64]
noncomputable def pre (g : Option Gr) : Bool := g.isSome
noncomputable def fn (g : Option Gr) : Int × Unit := (((gr g).edges : Int), ())
noncomputable def sig : Sig := ⟨ps, rs, fun d => match d with
  | (g, _) => pre g, fun d => match d with
  | (g, _) => fn g, true⟩
theorem sound : Sound Try.prog rho 45 sig := sound11 (fun (g : Option Gr) hp w U U' v0 hU h0 => by
  obtain ⟨G, lo, hi, rfl, hG⟩ := pg_in h0 hp
  refine (Edges_any w hG).mono ?_
  rintro e w' ⟨rfl, rfl⟩
  exact ⟨Below.refl _ _, _, rfl, int_out _⟩)
theorem enters : Enters Try.prog 45 := enters_of (fn := Try.f45) (by kernel_rfl) (by kernel_rfl) (by kernel_rfl)
theorem okR : Enters Try.prog 45 ∧ Sound Try.prog rho 45 sig := ⟨enters, sound⟩
end Edges
namespace Degree
abbrev ps : List PM := [.val (.obj 0), .val I64]
abbrev rs : List PM := [.val I64]
noncomputable def pre (g : Option Gr) (v : Int) : Bool := g.isSome
noncomputable def fn (g : Option Gr) (v : Int) : Int × Unit := (if 0 ≤ v then (((gr g).nb v.toNat).length : Int) else 0, ())
noncomputable def sig : Sig := ⟨ps, rs, fun d => match d with
  | (g, v, _) => pre g v, fun d => match d with
  | (g, v, _) => fn g v, true⟩
theorem sound : Sound Try.prog rho 46 sig := sound21 (fun (g : Option Gr) (v : Int) hp w U U' v0 v1 hU h0 h1 => by
  obtain ⟨G, lo, hi, rfl, hG⟩ := pg_in h0 hp
  obtain rfl := h1.int
  refine (Degree_any w hG v).mono ?_
  rintro e w' ⟨rfl, rfl⟩
  exact ⟨Below.refl _ _, _, rfl, int_out _⟩)
theorem enters : Enters Try.prog 46 := enters_of (fn := Try.f46) (by kernel_rfl) (by kernel_rfl) (by kernel_rfl)
theorem okR : Enters Try.prog 46 ∧ Sound Try.prog rho 46 sig := ⟨enters, sound⟩
end Degree
namespace Neighbours
abbrev ps : List PM := [.val (.obj 0), .val I64]
abbrev rs : List PM := [.val (.list I64)]
noncomputable def pre (g : Option Gr) (v : Int) : Bool := g.isSome
noncomputable def fn (g : Option Gr) (v : Int) : (List Int) × Unit := (up ((gr g).nbz v), ())
noncomputable def sig : Sig := ⟨ps, rs, fun d => match d with
  | (g, v, _) => pre g v, fun d => match d with
  | (g, v, _) => fn g v, true⟩
theorem sound : Sound Try.prog rho 38 sig := sound21 (fun (g : Option Gr) (v : Int) hp w U U' v0 v1 hU h0 h1 => by
  obtain ⟨G, lo, hi, rfl, hG⟩ := pg_in h0 hp
  obtain rfl := h1.int
  refine (Neighbours_any w hG v).mono ?_
  rintro e w' ⟨hb, x, rfl, hx⟩
  exact ⟨hb, _, rfl, ints_out hx (up_length _).symm hU⟩)
theorem enters : Enters Try.prog 38 := enters_of (fn := Try.f38) (by kernel_rfl) (by kernel_rfl) (by kernel_rfl)
theorem okR : Enters Try.prog 38 ∧ Sound Try.prog rho 38 sig := ⟨enters, sound⟩
end Neighbours
namespace Has
abbrev ps : List PM := [.val (.obj 0), .val I64, .val I64]
abbrev rs : List PM := [.val .bool]
noncomputable def pre (g : Option Gr) (u : Int) (v : Int) : Bool := g.isSome && (wf u && wf v)
noncomputable def fn (g : Option Gr) (u : Int) (v : Int) : Bool × Unit := ((gr g).has u v, ())
noncomputable def sig : Sig := ⟨ps, rs, fun d => match d with
  | (g, u, v, _) => pre g u v, fun d => match d with
  | (g, u, v, _) => fn g u v, true⟩
theorem sound : Sound Try.prog rho 41 sig := sound31 (fun (g : Option Gr) (u : Int) (v : Int) hp w U U' v0 v1 v2 hU h0 h1 h2 => by
  have hp := (show (g.isSome && (wf u && wf v)) = true from hp)
  rw [Bool.and_eq_true, Bool.and_eq_true] at hp
  obtain ⟨G, lo, hi, rfl, hG⟩ := pg_in h0 hp.1
  obtain rfl := h1.int
  obtain rfl := h2.int
  refine (Has_any w hG u v (wf_iff.1 hp.2.1) (wf_iff.1 hp.2.2)).mono ?_
  rintro e w' ⟨rfl, hb⟩
  exact ⟨hb, _, rfl, bool_out _⟩)
theorem enters : Enters Try.prog 41 := enters_of (fn := Try.f41) (by kernel_rfl) (by kernel_rfl) (by kernel_rfl)
theorem okR : Enters Try.prog 41 ∧ Sound Try.prog rho 41 sig := ⟨enters, sound⟩
end Has
namespace Pairs
abbrev ps : List PM := [.val (.obj 0)]
abbrev rs : List PM := [.val (.list Pr)]
noncomputable def pre (g : Option Gr) : Bool := g.isSome && decide ((gr g).n ≤ 4096)
noncomputable def fn (g : Option Gr) : (List (Int × Int)) × Unit := (upP (gr g).pairs, ())
noncomputable def sig : Sig := ⟨ps, rs, fun d => match d with
  | (g, _) => pre g, fun d => match d with
  | (g, _) => fn g, true⟩
theorem sound : Sound Try.prog rho 35 sig := sound11 (fun (g : Option Gr) hp w U U' v0 hU h0 => by
  have hp := (show (g.isSome && decide ((gr g).n ≤ 4096)) = true from hp)
  rw [Bool.and_eq_true] at hp
  obtain ⟨G, lo, hi, rfl, hG⟩ := pg_in h0 hp.1
  refine (Pairs_any w hG (of_decide_eq_true hp.2)).mono ?_
  rintro e w' ⟨hb, x, rfl, hx⟩
  exact ⟨hb, _, rfl, prs_out hx rfl hU⟩)
theorem enters : Enters Try.prog 35 := enters_of (fn := Try.f35) (by kernel_rfl) (by kernel_rfl) (by kernel_rfl)
theorem okR : Enters Try.prog 35 ∧ Sound Try.prog rho 35 sig := ⟨enters, sound⟩
end Pairs
namespace Arcs
abbrev ps : List PM := [.val (.obj 0), .val I64, .val I64]
abbrev rs : List PM := [.val (.list Pr)]
noncomputable def pre (g : Option Gr) (a : Int) (b : Int) : Bool := g.isSome && (decide ((gr g).n ≤ 4096) && (wf a && wf b))
noncomputable def fn (g : Option Gr) (a : Int) (b : Int) : (List (Int × Int)) × Unit := (upP ((gr g).arcs a b), ())
noncomputable def sig : Sig := ⟨ps, rs, fun d => match d with
  | (g, a, b, _) => pre g a b, fun d => match d with
  | (g, a, b, _) => fn g a b, true⟩
theorem sound : Sound Try.prog rho 47 sig := sound31 (fun (g : Option Gr) (a : Int) (b : Int) hp w U U' v0 v1 v2 hU h0 h1 h2 => by
  have hp := (show (g.isSome && (decide ((gr g).n ≤ 4096) && (wf a && wf b))) = true from hp)
  rw [Bool.and_eq_true, Bool.and_eq_true, Bool.and_eq_true] at hp
  obtain ⟨G, lo, hi, rfl, hG⟩ := pg_in h0 hp.1
  obtain rfl := h1.int
  obtain rfl := h2.int
  refine (Arcs_any w hG (of_decide_eq_true hp.2.1) a b (wf_iff.1 hp.2.2.1) (wf_iff.1 hp.2.2.2)).mono ?_
  rintro e w' ⟨hb, x, rfl, hx⟩
  exact ⟨hb, _, rfl, prs_out hx rfl hU⟩)
theorem enters : Enters Try.prog 47 := enters_of (fn := Try.f47) (by kernel_rfl) (by kernel_rfl) (by kernel_rfl)
theorem okR : Enters Try.prog 47 ∧ Sound Try.prog rho 47 sig := ⟨enters, sound⟩
end Arcs
namespace Lists
abbrev ps : List PM := [.val (.obj 0), .val I64, .val I64]
abbrev rs : List PM := [.val (.list (.pair I64 (.list I64)))]
noncomputable def pre (g : Option Gr) (a : Int) (b : Int) : Bool := g.isSome && (wf a && wf b)
noncomputable def fn (g : Option Gr) (a : Int) (b : Int) : (List (Int × List Int)) × Unit := (upL ((gr g).lists a b), ())
noncomputable def sig : Sig := ⟨ps, rs, fun d => match d with
  | (g, a, b, _) => pre g a b, fun d => match d with
  | (g, a, b, _) => fn g a b, true⟩
theorem sound : Sound Try.prog rho 63 sig := sound31 (fun (g : Option Gr) (a : Int) (b : Int) hp w U U' v0 v1 v2 hU h0 h1 h2 => by
  have hp := (show (g.isSome && (wf a && wf b)) = true from hp)
  rw [Bool.and_eq_true, Bool.and_eq_true] at hp
  obtain ⟨G, lo, hi, rfl, hG⟩ := pg_in h0 hp.1
  obtain rfl := h1.int
  obtain rfl := h2.int
  refine (Lists_any w hG a b (wf_iff.1 hp.2.1) (wf_iff.1 hp.2.2)).mono ?_
  rintro e w' ⟨hb, x, rfl, hx⟩
  exact ⟨hb, _, rfl, lists_out hx hU⟩)
theorem enters : Enters Try.prog 63 := enters_of (fn := Try.f63) (by kernel_rfl) (by kernel_rfl) (by kernel_rfl)
theorem okR : Enters Try.prog 63 ∧ Sound Try.prog rho 63 sig := ⟨enters, sound⟩
end Lists
namespace Induced
abbrev ps : List PM := [.val (.obj 0), .val (.list .bool)]
abbrev rs : List PM := [.val (.obj 0)]
noncomputable def pre (g : Option Gr) (k : List Bool) : Bool := g.isSome
noncomputable def fn (g : Option Gr) (k : List Bool) : (Option Gr) × Unit := (some ((gr g).induced k), ())
noncomputable def sig : Sig := ⟨ps, rs, fun d => match d with
  | (g, k, _) => pre g k, fun d => match d with
  | (g, k, _) => fn g k, true⟩
theorem sound : Sound Try.prog rho 40 sig := sound21 (fun (g : Option Gr) (k : List Bool) hp w U U' v0 v1 hU h0 h1 => by
  obtain ⟨G, lo, hi, rfl, hG⟩ := pg_in h0 hp
  refine (Induced_any w hG (bools_in h1)).mono ?_
  rintro e w' ⟨hb, x, rfl, hx⟩
  exact ⟨hb, _, rfl, pg_out hx hU⟩)
theorem enters : Enters Try.prog 40 := enters_of (fn := Try.f40) (by kernel_rfl) (by kernel_rfl) (by kernel_rfl)
theorem okR : Enters Try.prog 40 ∧ Sound Try.prog rho 40 sig := ⟨enters, sound⟩
end Induced
open Classical in
noncomputable def parts (G : Gr) (k : List Bool) : List Int := if h : ∃ p, Parted G (kK k) p then Classical.choose h else []
theorem parts_is {G : Gr} {k : List Bool} {p : List Int} (h : Parted G (kK k) p) : parts G k = p := by
  unfold parts
  rw [dif_pos ⟨p, h⟩]
  exact (Classical.choose_spec (⟨p, h⟩ : ∃ p, Parted G (kK k) p)).uniq h
namespace Parts
abbrev ps : List PM := [.val (.obj 0), .val (.list .bool)]
abbrev rs : List PM := [.val (.list I64)]
noncomputable def pre (g : Option Gr) (k : List Bool) : Bool := g.isSome
noncomputable def fn (g : Option Gr) (k : List Bool) : (List Int) × Unit := (parts (gr g) k, ())
noncomputable def sig : Sig := ⟨ps, rs, fun d => match d with
  | (g, k, _) => pre g k, fun d => match d with
  | (g, k, _) => fn g k, true⟩
theorem sound : Sound Try.prog rho 37 sig := sound21 (fun (g : Option Gr) (k : List Bool) hp w U U' v0 v1 hU h0 h1 => by
  obtain ⟨G, lo, hi, rfl, hG⟩ := pg_in h0 hp
  refine (Parts_any w hG (bools_in h1)).mono ?_
  rintro e w' ⟨hb, x, p, rfl, hx, hP⟩
  refine ⟨hb, _, rfl, ?_⟩
  rw [fn, gr_some, parts_is hP]
  exact ints_out hx rfl hU)
theorem enters : Enters Try.prog 37 := enters_of (fn := Try.f37) (by kernel_rfl) (by kernel_rfl) (by kernel_rfl)
theorem okR : Enters Try.prog 37 ∧ Sound Try.prog rho 37 sig := ⟨enters, sound⟩
end Parts
def chgOk (G : Gr) (cs : List (Int × Int × Bool)) : Bool := cs.all (fun c => okP G.n (toC c).1)
namespace Changed
abbrev ps : List PM := [.val (.obj 0), .val (.list Cg)]
abbrev rs : List PM := [.val (.obj 0), .val I64]
noncomputable def pre (g : Option Gr) (l : List (Int × Int × Bool)) : Bool := g.isSome
noncomputable def fn (g : Option Gr) (l : List (Int × Int × Bool)) : (Option Gr) × Int × Unit := if chgOk (gr g) l = true then (some ((gr g).changed (l.map toC)), 0, ()) else (none, 42, ())
noncomputable def sig : Sig := ⟨ps, rs, fun d => match d with
  | (g, l, _) => pre g l, fun d => match d with
  | (g, l, _) => fn g l, true⟩
theorem sound : Sound Try.prog rho 43 sig := sound22 (fun (g : Option Gr) (l : List (Int × Int × Bool)) hp w U U' v0 v1 hU h0 h1 => by
  obtain ⟨G, lo, hi, rfl, hG⟩ := pg_in h0 hp
  refine (Changed_any w hG (chs_in h1)).mono ?_
  rintro e w' ⟨hb, hx, hy⟩
  by_cases hc : chgOk G l = true
  · obtain ⟨x, rfl, hx2⟩ := hx (fun c h => by
      obtain ⟨d, hd, rfl⟩ := List.mem_map.1 h
      exact List.all_eq_true.1 hc d hd)
    rw [fn, gr_some, if_pos hc]
    exact ⟨hb, _, _, rfl, pg_out hx2 hU, int_out 0⟩
  · obtain rfl := hy (by
      have : ∃ d ∈ l, okP G.n (toC d).1 = false := by
        simp only [chgOk, List.all_eq_true, Classical.not_forall] at hc
        obtain ⟨d, hd, hk⟩ := hc
        exact ⟨d, hd, by simpa using hk⟩
      obtain ⟨d, hd, hk⟩ := this
      exact ⟨toC d, List.mem_map.2 ⟨d, hd, rfl⟩, hk⟩)
    rw [fn, gr_some, if_neg hc]
    exact ⟨hb, _, _, rfl, nil_out, int_out 42⟩)
theorem enters : Enters Try.prog 43 := enters_of (fn := Try.f43) (by kernel_rfl) (by kernel_rfl) (by kernel_rfl)
theorem okR : Enters Try.prog 43 ∧ Sound Try.prog rho 43 sig := ⟨enters, sound⟩
end Changed
def prsOk (n : Int) (l : List (Int × Int)) : Bool := l.all (fun p => okP n.toNat p)
def inN (n : Int) : Bool := decide (0 ≤ n) && decide (n ≤ 16777216)
namespace Make
abbrev ps : List PM := [.val I64, .val (.list Pr)]
abbrev rs : List PM := [.val (.obj 0), .val I64]
noncomputable def pre (n : Int) (l : List (Int × Int)) : Bool := true
noncomputable def fn (n : Int) (l : List (Int × Int)) : (Option Gr) × Int × Unit := if inN n = true then (if prsOk n l = true then (some (Gr.ofPairs n.toNat l), 0, ()) else (none, 42, ())) else (none, 41, ())
noncomputable def sig : Sig := ⟨ps, rs, fun d => match d with
  | (n, l, _) => pre n l, fun d => match d with
  | (n, l, _) => fn n l, true⟩
theorem sound : Sound Try.prog rho 105 sig := sound22 (fun (n : Int) (l : List (Int × Int)) hp w U U' v0 v1 hU h0 h1 => by
  obtain rfl := h0.int
  by_cases hn : inN n = true
  · have hn' : 0 ≤ n ∧ n ≤ 16777216 := by simpa [inN] using hn
    obtain ⟨m, rfl⟩ := Int.eq_ofNat_of_zero_le hn'.1
    refine (Make_in w m (by omega) (prs_in h1)).mono ?_
    rintro e w' ⟨hb, hx, hy⟩
    by_cases hc : prsOk (m : Int) l = true
    · obtain ⟨x, rfl, hx2⟩ := hx (fun p h => List.all_eq_true.1 hc p h)
      rw [fn, if_pos hn, if_pos hc]
      exact ⟨hb, _, _, rfl, pg_out hx2 hU, int_out 0⟩
    · obtain rfl := hy (by
        simp only [prsOk, List.all_eq_true, Classical.not_forall] at hc
        obtain ⟨d, hd, hk⟩ := hc
        exact ⟨d, hd, by simpa using hk⟩)
      rw [fn, if_pos hn, if_neg hc]
      exact ⟨hb, _, _, rfl, nil_out, int_out 42⟩
  · refine (Make_out w n v1 (by simp [inN] at hn; omega)).mono ?_
    rintro e w' ⟨rfl, hb⟩
    rw [fn, if_neg hn]
    exact ⟨hb, _, _, rfl, nil_out, int_out 41⟩)
theorem enters : Enters Try.prog 105 := enters_of (fn := Try.f105) (by kernel_rfl) (by kernel_rfl) (by kernel_rfl)
theorem okR : Enters Try.prog 105 ∧ Sound Try.prog rho 105 sig := ⟨enters, sound⟩
end Make
end Go.Proofs.Ythbojpaghbbnnaa.Z
