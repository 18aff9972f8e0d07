/- Plain law: HindexAbove answers true. No condition. -/
import Derived.Test.YthbojpaghbbnnaaZN
import Derived.Test.YthbojpaghbbnnaaZT
import Derived.Test.YthbojpaghbbnnaaZP
import Derived.Test.YthbojpaghbbnnaaVU
import Derived.KernelRfl
namespace Go.Proofs.Ythbojpaghbbnnaa.Z
open Go Go.RowKit
set_option linter.unusedVariables false
set_option linter.unusedSimpArgs false
/-! pith/pithlaw7.HindexAbove -/
namespace HindexAbove
abbrev ps : List PM := [.val I64, .val (.list Pr), .val (.list I64)]
abbrev rs : List PM := [.val .bool]
noncomputable abbrev code : Code := (Go.Proofs.Try.f19.body.getD .skip)
abbrev s8 : Shape := ⟨[.v I64, .un, .v (.list I64), .un, .un, .un, .un, .un, .v (.obj 0), .un, .v (.list I64), .row 0, .v I64, .un, .un, .un, .un, .un, .un, .un, .un, .un, .un, .un, .un, .un, .un, .un, .un, .un, .un, .un, .un, .un, .un, .un, .un, .un, .un, .un, .un, .un, .un, .un, .un, .un, .un, .un, .un, .un, .un, .un, .un, .un, .un, .un, .un, .un, .un, .un, .un, .un, .un, .un, .un, .un, .un, .un, .un, .un, .un, .un, .un, .un, .un, .un, .un, .un, .un, .un, .un, .un, .un, .un, .un, .un], [.row (3 : Go.TypeId) I64]⟩
abbrev x8 : List Way := [⟨(.ex 0), ⟨[(8, none), (10, none), (11, none)]⟩, ⟨[.un, .un, .un, .un, .un, .un, .un, .un, .v (.obj 0), .un, .v (.list I64), .row 0, .un, .un, .un, .un, .un, .un, .un, .un, .un, .un, .un, .un, .un, .un, .un, .un, .un, .un, .un, .un, .un, .un, .un, .un, .un, .un, .un, .un, .un, .un, .un, .un, .un, .un, .un, .un, .un, .un, .un, .un, .un, .un, .un, .un, .un, .un, .un, .un, .un, .un, .un, .un, .un, .un, .un, .un, .un, .un, .un, .un, .un, .un, .un, .un, .un, .un, .un, .un, .un, .un, .un, .un, .un, .un], [.row (3 : Go.TypeId) I64]⟩⟩]
abbrev V8 : Type := (Int × (List Int) × (Option Gr) × (List Int) × Int × Unit) × ((List Int) × Unit)
abbrev X8 : Type := ((Option Gr) × (List Int) × Unit) × ((List Int) × Unit)
noncomputable def R8 {R : Type} (n0 : Int) (more2 : (List Int)) (g8 : (Option Gr)) (want10 : (List Int)) (v12 : Int) (r0 : List Int) (k : V8 → Option R) (kx : X8 → Option R) : Option R := (if Decidable.decide (v12 < n0) = Bool.true then (if Decidable.decide (v12 < (↑(List.length more2) : Int)) = Bool.true then (if (0 : Int) ≤ v12 then (if v12 < (↑(List.length more2) : Int) then (if Decidable.decide (List.getD more2 (Int.toNat v12) (0 : Int) > (0 : Int)) = Bool.true then (if (0 : Int) ≤ v12 then (if v12 < (↑(List.length more2) : Int) then (if Decidable.decide (List.getD more2 (Int.toNat v12) (0 : Int) < (1099511627776 : Int)) = Bool.true then (if (0 : Int) ≤ v12 then (if v12 < (↑(List.length r0) : Int) then (if (0 : Int) ≤ v12 then (if v12 < (↑(List.length more2) : Int) then (if (0 : Int) ≤ v12 then (if v12 < (↑(List.length r0) : Int) then (if Int.toNat v12 < List.length r0 then k ((n0, more2, g8, want10, IntKind.wrap .i64 (v12 + (1 : Int)), ()), (List.set r0 (Int.toNat v12) (IntKind.wrap .i64 (List.getD r0 (Int.toNat v12) (0 : Int) + List.getD more2 (Int.toNat v12) (0 : Int))), ()))
 else none)
 else none)
 else none)
 else none)
 else none)
 else none)
 else none)
 else k ((n0, more2, g8, want10, IntKind.wrap .i64 (v12 + (1 : Int)), ()), (r0, ())))
 else none)
 else none)
 else k ((n0, more2, g8, want10, IntKind.wrap .i64 (v12 + (1 : Int)), ()), (r0, ())))
 else none)
 else none)
 else kx (((g8, want10, ()), (r0, ()))))
 else kx (((g8, want10, ()), (r0, ()))))
noncomputable def rd8 : Rd (VO s8) (Xs x8) := fun v k kx => match v with
  | ((n0, more2, g8, want10, v12, _), (r0, _)) => R8 n0 more2 g8 want10 v12 r0 k kx
noncomputable def F8 (n0 : Int) (more2 : (List Int)) (g8 : (Option Gr)) (want10 : (List Int)) (v12 : Int) (r0 : List Int) : Option X8 := finOf rd8 ((n0, more2, g8, want10, v12, ()), (r0, ()))
theorem F8_inv {n0 : Int} {more2 : (List Int)} {g8 : (Option Gr)} {want10 : (List Int)} (I : Int → List Int → Prop) (μ : Int → List Int → Nat) (Q : X8 → Prop) (h : ∀ (v12 : Int) (r0 : List Int), I v12 r0 → Led (fun (R : Type) (k : V8 → Option R) (kx : X8 → Option R) => R8 n0 more2 g8 want10 v12 r0 k kx) (fun v => ∃ (v12' : Int) (r0' : List Int), v = ((n0, more2, g8, want10, v12', ()), (r0', ())) ∧ I v12' r0' ∧ μ v12' r0' < μ v12 r0) Q) : ∀ (v12 : Int) (r0 : List Int), I v12 r0 → ∃ z, F8 n0 more2 g8 want10 v12 r0 = some z ∧ Q z := fun v12 r0 hi => by
  refine finOf_inv (V := V8) (X := X8) (rd := rd8) (fun v => ∃ (v12' : Int) (r0' : List Int), v = ((n0, more2, g8, want10, v12', ()), (r0', ())) ∧ I v12' r0') (fun v => match v with
    | ((n0, more2, g8, want10, v12, _), (r0, _)) => μ v12 r0) Q (fun v hv => ?_) ((n0, more2, g8, want10, v12, ()), (r0, ())) ⟨v12, r0, rfl, hi⟩
  obtain ⟨v12, r0, rfl, hi⟩ := hv
  refine led_mono (h v12 r0 hi) ?_ (fun _ q => q)
  rintro v ⟨v12', r0', rfl, h1, h2⟩
  exact ⟨⟨v12', r0', rfl, h1⟩, h2⟩
noncomputable def L8 : Lp := ⟨8, ⟨[(0, none), (2, none), (8, none), (10, none), (11, none), (12, none)]⟩, s8, x8, fun v => match v with
  | ((n0, more2, g8, want10, v12, _), (r0, _)) => F8 n0 more2 g8 want10 v12 r0⟩
theorem ends8 : Ends L8 rd8 := ends_fin (fun v => by
  obtain ⟨⟨n0, more2, g8, want10, v12, _⟩, ⟨r0, _⟩⟩ := v
  rfl)
noncomputable def env : Env := mkEnv tab [(66, first7.sig), (70, Made7.sig), (78, Cores7.sig), (67, IntsO.sig), (76, RunH.sig), (53, SameIntsH.sig), (74, num7.sig)] 0 [(11, [0, 1, 2, 3, 4, 5, 6, 7, 8, 9, 10, 11, 12])] [L8]
theorem round8 : RoundIs env (sub [true, true, true, true, true, true, false, true, false, false] code) L8 rd8 := fun R v k kx => by kernel_rfl
abbrev D : Type := (Bool × Unit)
noncomputable def run' (n0 : Int) (pairs1 : (List (Int × Int))) (more2 : (List Int)) : Option D := (if first7.pre = Bool.true then (if Made7.pre n0 pairs1 = Bool.true then (if (!first7.fn.1) = Bool.false then (if Option.isNone (Made7.fn n0 pairs1).1 = Bool.true then some (first7.fn.1, ())
 else (if Cores7.pre (Made7.fn n0 pairs1).2.1 = Bool.true then (if IntsO.pre (Cores7.fn (Made7.fn n0 pairs1).2.1).1 = Bool.true then (match F8 (n0) (more2) ((Made7.fn n0 pairs1).1) ((Cores7.fn (Made7.fn n0 pairs1).2.1).1) ((0 : Int)) ((IntsO.fn (Cores7.fn (Made7.fn n0 pairs1).2.1).1).1) with
  | some (((g8_1, want10_1, _), (r0_1, _))) => (if RunH.pre g8_1 r0_1 = Bool.true then (if SameIntsH.pre (RunH.fn g8_1 r0_1).1 want10_1 = Bool.true then (if (SameIntsH.fn (RunH.fn g8_1 r0_1).1 want10_1).1 = Bool.true then (if num7.pre (RunH.fn g8_1 r0_1).2.2.1 = Bool.true then some ((num7.fn (RunH.fn g8_1 r0_1).2.2.1).1 == (0 : Int), ())
 else none)
 else some (Bool.false, ()))
 else none)
 else none)
  | none => none)
 else none)
 else none))
 else some (first7.fn.1, ()))
 else none)
 else none)
noncomputable def run (d : Ds (List.map PM.ty ps)) : Option (Ds (muts ps ++ List.map PM.ty rs)) := match d with
  | (n0, pairs1, more2, _) => run' n0 pairs1 more2
theorem run_is : ∀ d, runF env 86 code [6] ps rs d = run d := fun d => by kernel_rfl
theorem loops : LoopsOk env code := loopsOk_of (l := [[true, true, true, true, true, true, false, true, false, false]]) (by kernel_rfl) (fun p hp => by
  simp only [List.mem_cons, List.not_mem_nil, or_false] at hp
  rcases hp with rfl
  · exact loopOk_lp (L := L8) (x := sub [true, true, true, true, true, true, false, true, false, false] code) (by kernel_rfl) (by simp [L8]) round8 ends8
  )
noncomputable def pre (n0 : Int) (pairs1 : (List (Int × Int))) (more2 : (List Int)) : Bool := (run' n0 pairs1 more2).isSome
noncomputable def fn (n0 : Int) (pairs1 : (List (Int × Int))) (more2 : (List Int)) : D := match run' n0 pairs1 more2 with
  | some x => x
  | none => default
noncomputable def sig : Sig := ⟨ps, rs, fun d => match d with
  | (n0, pairs1, more2, _) => pre n0 pairs1 more2, fun d => match d with
  | (n0, pairs1, more2, _) => fn n0 pairs1 more2⟩
theorem run_fn (n0 : Int) (pairs1 : (List (Int × Int))) (more2 : (List Int)) (h : pre n0 pairs1 more2 = true) : run' n0 pairs1 more2 = some (fn n0 pairs1 more2) := by
  unfold pre at h
  unfold fn
  cases e : run' n0 pairs1 more2 with
  | some x => rfl
  | none => rw [e] at h; cases h
theorem is_fn (n0 : Int) (pairs1 : (List (Int × Int))) (more2 : (List Int)) {x : D} (h : run' n0 pairs1 more2 = some x) : pre n0 pairs1 more2 = true ∧ fn n0 pairs1 more2 = x := by
  unfold pre fn
  rw [h]
  exact ⟨rfl, rfl⟩
theorem sound {ρ : Obs} (hE : EnvOk Go.Proofs.Try.prog ρ env) : Sound Go.Proofs.Try.prog ρ 19 sig := sound_of (fn := Go.Proofs.Try.f19) (c := code) (res := [6]) hE (by kernel_rfl) (by kernel_rfl) (by kernel_rfl) (by kernel_rfl) (by kernel_rfl) loops rfl (show 3 ≤ 86 by decide) (fun d hd => (run_is d).trans (by
  obtain ⟨n0, pairs1, more2, _⟩ := d
  exact run_fn n0 pairs1 more2 hd))
theorem enters : Enters Go.Proofs.Try.prog 19 := enters_of (fn := Go.Proofs.Try.f19) (by kernel_rfl) (by kernel_rfl) (by kernel_rfl)
theorem ok {ρ : Obs} (h : ∀ p ∈ ([(66, first7.sig), (70, Made7.sig), (78, Cores7.sig), (67, IntsO.sig), (76, RunH.sig), (53, SameIntsH.sig), (74, num7.sig)] : List (FuncId × Sig)), Enters Go.Proofs.Try.prog p.1 ∧ Sound Go.Proofs.Try.prog ρ p.1 p.2) : Enters Go.Proofs.Try.prog 19 ∧ Sound Go.Proofs.Try.prog ρ 19 sig := ⟨enters, sound (envOk_of tabOk h)⟩
theorem okR : Enters Go.Proofs.Try.prog 19 ∧ Sound Go.Proofs.Try.prog rho 19 sig := ok (fun p hp => by
  simp only [List.mem_cons, List.not_mem_nil, or_false] at hp
  rcases hp with rfl | rfl | rfl | rfl | rfl | rfl | rfl
  · exact first7.okR
  · exact Made7.okR
  · exact Cores7.okR
  · exact IntsO.okR
  · exact RunH.okR
  · exact SameIntsH.okR
  · exact num7.okR)
end HindexAbove
end Go.Proofs.Ythbojpaghbbnnaa.Z
namespace Go.Proofs.Ythbojpaghbbnnaa.Z
open Go Go.RowKit Hx
set_option linter.unusedVariables false
set_option linter.unusedSimpArgs false
theorem core_bounds {G : Gr} {c : List Int} (h : IsCores G.n (nbG G) c) (j : Nat) : 0 ≤ c.getD j 0 ∧ c.getD j 0 ≤ ((nbG G j).length : Int) ∧ c.getD j 0 ≤ (G.n : Int) := by
  rcases Nat.lt_or_ge j G.n with q | q
  · have a := h.nonneg j q
    have b := (h.isin j q).lt.2
    have d := nbG_len (G := G) j
    omega
  · have : c.getD j 0 = 0 := by rw [List.getD_eq_getElem?_getD, List.getElem?_eq_none (by rw [h.len]; exact q)]; rfl
    omega
namespace HindexAbove
theorem F8_is {n : Int} {more : List Int} {g : Option Gr} {c : List Int} (hl : (c.length : Int) = n) (hs : c.length ≤ 1048576) (hb : ∀ j, 0 ≤ c.getD j 0 ∧ c.getD j 0 ≤ 1048576) :
    ∃ r, F8 n more g c 0 c = some ((g, c, ()), (r, ())) ∧ r.length = c.length ∧ ∀ j, c.getD j 0 ≤ r.getD j 0 := by
  have key := F8_inv (n0 := n) (more2 := more) (g8 := g) (want10 := c) (fun v r => 0 ≤ v ∧ v ≤ n ∧ r.length = c.length ∧ (∀ j, c.getD j 0 ≤ r.getD j 0) ∧ ∀ j, v.toNat ≤ j → r.getD j 0 = c.getD j 0) (fun v _ => n.toNat - v.toNat)
    (fun z => ∃ r, z = ((g, c, ()), (r, ())) ∧ r.length = c.length ∧ ∀ j, c.getD j 0 ≤ r.getD j 0) (fun v r hi => by
      obtain ⟨h0, h1, h2, h3, h4⟩ := hi
      unfold R8
      refine led_dif (fun q1 => ?_) (fun q1 => led_x ⟨_, rfl, h2, h3⟩)
      refine led_dif (fun q2 => ?_) (fun q2 => led_x ⟨_, rfl, h2, h3⟩)
      have hw : IntKind.wrap .i64 (v + 1) = v + 1 := wr (by omega) (by omega)
      rw [hw]
      have go : ∃ (v' : Int) (r' : List Int), ((n, more, g, c, v + 1, ()), (r, ())) = ((n, more, g, c, v', ()), (r', ())) ∧ (0 ≤ v' ∧ v' ≤ n ∧ r'.length = c.length ∧ (∀ j, c.getD j 0 ≤ r'.getD j 0) ∧ ∀ j, v'.toNat ≤ j → r'.getD j 0 = c.getD j 0) ∧ n.toNat - v'.toNat < n.toNat - v.toNat := ⟨_, _, rfl, ⟨by omega, by omega, h2, h3, fun j hj => h4 j (by omega)⟩, by omega⟩
      refine led_need h0 (led_need q2 (led_dif (fun q3 => ?_) (fun q3 => led_k go)))
      refine led_need h0 (led_need q2 (led_dif (fun q4 => ?_) (fun q4 => led_k go)))
      have e := h4 v.toNat (Nat.le_refl _)
      have b := hb v.toNat
      have hw2 : IntKind.wrap .i64 (r.getD v.toNat 0 + more.getD v.toNat 0) = r.getD v.toNat 0 + more.getD v.toNat 0 := wr (by omega) (by omega)
      rw [hw2]
      refine led_need h0 (led_need (by omega) (led_need h0 (led_need q2 (led_need h0 (led_need (by omega) (led_need (by omega) (led_k ⟨_, _, rfl, ⟨by omega, by omega, by rw [List.length_set]; exact h2, fun j => ?_, fun j hj => ?_⟩, by omega⟩)))))))
      · rw [getD_set]
        split
        · rename_i hc
          have := h3 v.toNat
          rw [← hc.1]
          omega
        · exact h3 j
      · rw [getD_set, if_neg (by omega)]
        exact h4 j (by omega)) 0 c ⟨by omega, by omega, rfl, fun _ => Int.le_refl _, fun _ _ => rfl⟩
  obtain ⟨z, hz, r, rfl, k1, k2⟩ := key
  exact ⟨r, hz, k1, k2⟩
theorem holds (n : Int) (l : List (Int × Int)) (more : List Int) (w0 : (Lit.int .i64 n).wf = true) (w1 : l.length ≤ maxLen ∧ ∀ x ∈ l, (Lit.int .i64 x.1).wf = true ∧ (Lit.int .i64 x.2).wf = true) (w2 : more.length ≤ maxLen ∧ ∀ x ∈ more, (Lit.int .i64 x).wf = true) : pre n l more = true ∧ fn n l more = (true, ()) := by
  refine is_fn _ _ _ ?_
  unfold run'
  have hmp : Made7.pre n l = true := rfl
  by_cases hm : madeOk n l = true
  · have hG := madeG_ok hm
    obtain ⟨⟨h0, h1⟩, h2⟩ := madeOk_iff.1 hm
    have hGn : (madeG n l).n ≤ 1048576 := by rw [madeG_n]; omega
    have hn : ((madeG n l).n : Int) = n := by rw [madeG_n]; omega
    have hn0 : Option.isNone (some (madeG n l)) = false := rfl
    obtain ⟨d1, c, d2, c3⟩ := Cores7.is (lok_listsOf hG hGn)
    rw [nbl_listsOf hG] at c3
    have hy := Made7.yes hm
    generalize madeG n l = G at *
    have hcl := c3.len
    have hcb := core_bounds c3
    have hpl : IntsO.pre c = true := decide_eq_true (by omega)
    obtain ⟨r, f1, f2, f3⟩ := F8_is (n := n) (more := more) (g := some G) (c := c) (by omega) (by omega) (fun j => by have := hcb j; omega)
    have hr0 : ∀ j, 0 ≤ r.getD j 0 := fun j => Int.le_trans (hcb j).1 (f3 j)
    have hmay : mayB G r = true := mayB_iff.2 ⟨by omega, fun x hx => by
      obtain ⟨j, _, rfl⟩ := (mem_idx 0).1 hx
      exact hr0 j⟩
    obtain ⟨R, F, hR⟩ := runs_ex (nbs := nbG G) (clip_len (nbG G) G.n r) (clip_nonneg hr0)
    have a := RunH.is hG hGn hmay hR
    have hcc : ∀ j, j < G.n → c.getD j 0 ≤ (clip (nbG G) G.n r).getD j 0 := fun j hj => by
      rw [clip_getD, if_pos hj]
      have := hcb j
      have := f3 j
      omega
    have fin : ∃ F', RunH.pre (some G) r = true ∧ RunH.fn (some G) r = (c, F', 0, ()) := by
      by_cases ha : anyTo (nbG G) G.n = true
      · rw [if_pos ha] at a
        rw [Left.cores (nbG_ok hG) (hR.left (nbG_ok hG) (clip_len _ _ _) (clip_nonneg hr0)) c3 hcc] at a
        exact ⟨_, a⟩
      · rw [if_neg ha] at a
        have e : clip (nbG G) G.n r = c := by
          refine list_ext_getD (by rw [clip_len, hcl]) (fun j q1 => ?_)
          rw [clip_len] at q1
          have z : (nbG G j).length = 0 := by
            refine Nat.eq_zero_of_not_pos (fun p => ha ?_)
            exact List.any_eq_true.2 ⟨j, List.mem_range.2 q1, decide_eq_true p⟩
          have u := hcc j q1
          have t := clip_getD (nbG G) G.n r j
          rw [if_pos q1] at t
          have v := hcb j
          have w := hr0 j
          omega
        rw [e] at a
        exact ⟨_, a⟩
    obtain ⟨F', a1, a2⟩ := fin
    simp only [first7.is.1, first7.is.2, hmp, hy, hn0, d1, d2, hpl, IntsO.fn, f1, a1, a2, (sameIs _ _).1, (sameIs _ _).2, (num7.is _).1, (num7.is _).2, decide_true, if_true, if_false, Bool.not_true, Bool.false_eq_true, Bool.true_eq_false]
    rfl
  · simp [first7.is.1, first7.is.2, hmp, Made7.no hm]
end HindexAbove
end Go.Proofs.Ythbojpaghbbnnaa.Z
