/- Facts on the translated program as a whole that each row asks again: proved once, in pieces, so that no piece needs much memory. No condition. -/
import Derived.Test.YthbojpaghbbnnaaDoorRows
import Derived.WalkKit
import Derived.ProofKit
import Derived.ChangeOld
import Derived.JoinedOf
import Derived.Carry
import Derived.OpenShut
namespace Go.Proofs.YthbojpaghbbnnaaDoor.Facts
open Go.RowKit
def joinW : List (List Char) → List Char
  | [] => []
  | [w] => w
  | w :: ws => w ++ Char.ofNat 32 :: joinW ws
theorem wordsSigns_word : ∀ (w : List Char), (∀ c ∈ w, c ≠ Char.ofNat 32) → ∀ r, wordsSigns (w ++ Char.ofNat 32 :: r) = w :: wordsSigns r
  | [], _, r => by rw [List.nil_append]; exact wordsSigns.eq_2 r
  | c :: w, h, r => by
    have ih := wordsSigns_word w (fun d hd => h d (by simp [hd])) r
    have hc : c ≠ Char.ofNat 32 := h c (by simp)
    rw [List.cons_append]
    rw [wordsSigns]
    · rw [ih]
    · exact fun e => hc e
theorem wordsSigns_last : ∀ (w : List Char), (∀ c ∈ w, c ≠ Char.ofNat 32) → wordsSigns w = [w]
  | [], _ => by simp [wordsSigns]
  | c :: w, h => by
    have ih := wordsSigns_last w (fun d hd => h d (by simp [hd]))
    have hc : c ≠ Char.ofNat 32 := h c (by simp)
    rw [wordsSigns]
    · rw [ih]
    · exact fun e => hc e
theorem wordsSigns_join : ∀ (l : List (List Char)), l ≠ [] → (∀ w ∈ l, ∀ c ∈ w, c ≠ Char.ofNat 32) → wordsSigns (joinW l) = l
  | [], h, _ => absurd rfl h
  | [w], _, h => wordsSigns_last w (h w (by simp))
  | w :: v :: r, _, h => by
    show wordsSigns (w ++ Char.ofNat 32 :: joinW (v :: r)) = _
    rw [wordsSigns_word w (h w (by simp)), wordsSigns_join (v :: r) (by simp) (fun x hx => h x (by simp [hx]))]
def wd (l : List Nat) : List Char := l.map Char.ofNat
def roots : List (List Char) := [wd [104, 97, 114, 110, 101, 115, 115], wd [100, 55, 52, 56, 53, 54, 100, 51, 102, 55, 50, 97, 49, 100, 48, 51, 99, 98, 102, 54, 99, 48, 57, 100, 97, 51, 48, 49, 55, 49, 100, 57, 50, 50, 101, 100, 49, 50, 97, 101, 100, 102, 50, 50, 55, 56, 56, 99, 55, 48, 53, 50, 55, 99, 100, 97, 48, 102, 98, 50, 57, 101, 57, 100], wd [99, 117, 116], wd [97, 116], wd [112, 105, 116, 104, 47, 112, 105, 116, 104, 108, 97, 119, 49, 55, 46, 69, 115, 116, 66, 101, 103, 105, 110, 115], wd [112, 105, 116, 104, 47, 112, 105, 116, 104, 108, 97, 119, 49, 55, 46, 69, 115, 116, 76, 97, 121, 111, 117, 116, 115], wd [112, 105, 116, 104, 47, 112, 105, 116, 104, 108, 97, 119, 49, 55, 46, 69, 115, 116, 67, 97, 108, 108, 101, 100], wd [112, 105, 116, 104, 47, 112, 105, 116, 104, 108, 97, 119, 49, 55, 46, 69, 115, 116, 71, 111, 101, 115], wd [112, 105, 116, 104, 47, 112, 105, 116, 104, 108, 97, 119, 49, 55, 46, 69, 115, 116, 67, 111, 114, 101, 115], wd [112, 105, 116, 104, 47, 112, 105, 116, 104, 108, 97, 119, 49, 55, 46, 69, 115, 116, 66, 111, 117, 110, 100, 115]]
theorem rootsOk : roots.all (fun w => w.all (fun c => decide (c ≠ Char.ofNat 32))) = true := by kernel_rfl
theorem initJoin : Tryd.prog.initOrder = String.ofList (joinW roots) := by kernel_rfl
theorem make_of {P : Program} {rest : List (List Char)} (h : behindMainWord (wordsSigns P.initOrder.toList) = wd [99, 117, 116] :: rest) : P.make = some .cut := by
  have a1 : (wd [99, 117, 116] == "gc".toList || wd [99, 117, 116] == "spec".toList) = false := by kernel_rfl
  have a2 : (wd [99, 117, 116] == "cut".toList) = true := by kernel_rfl
  unfold Program.make
  rw [h]
  simp only [a1, a2, Bool.true_or, if_true, Bool.false_eq_true, if_false]
theorem headLifts_of {P : Program} {rest : List (List Char)} (h : behindMainWord (wordsSigns P.initOrder.toList) = wd [99, 117, 116] :: rest)
    (s : (stripLifts liftWords (wd [99, 117, 116] :: rest)).1 = []) : P.headLifts = [] := by
  unfold Program.headLifts
  rw [h]
  simp only [s, ite_self]
theorem liftsFinal_of {P : Program} {rest : List (List Char)} (h : behindMainWord (wordsSigns P.initOrder.toList) = wd [99, 117, 116] :: rest)
    (s : (stripLifts liftWords (wd [99, 117, 116] :: rest)).1 = []) : P.liftsFinal = false := by
  have a : (some (wd [99, 117, 116]) == some "carried".toList) = false := by kernel_rfl
  unfold Program.liftsFinal
  rw [h, headLifts_of h s]
  simp only [List.head?_cons, a, Bool.false_and, Bool.false_or]
  rfl
theorem mayEnter_of {P : Program} {rest : List (List Char)} (h : behindMainWord (wordsSigns P.initOrder.toList) = wd [99, 117, 116] :: rest)
    (s : (stripLifts liftWords (wd [99, 117, 116] :: rest)).1 = []) (s2 : ((stripLifts liftWords (wd [99, 117, 116] :: rest)).2.head? == some "cut".toList) = true)
    (l : P.laysLater = false) (r : P.bearsReflect = false) (d : P.doorFits [] = true) : P.mayEnter = true := by
  unfold Program.mayEnter
  rw [h]
  simp only [s, s2, l, r, d]
  simp
theorem words0 : ∃ rest, wordsSigns Tryd.prog.initOrder.toList = roots ∧ roots.drop 2 = wd [99, 117, 116] :: rest ∧ (stripLifts liftWords (wd [99, 117, 116] :: rest)).1 = [] ∧ ((stripLifts liftWords (wd [99, 117, 116] :: rest)).2.head? == some "cut".toList) = true := by
  refine ⟨roots.drop 3, ?_, by kernel_rfl, by kernel_rfl, by kernel_rfl⟩
  rw [initJoin, String.toList_ofList]
  refine wordsSigns_join _ (by simp [roots]) (fun w hw c hc => ?_)
  have := List.all_eq_true.1 rootsOk w hw
  have := List.all_eq_true.1 this c hc
  simpa using this
theorem behind : behindMainWord roots = roots.drop 2 := by kernel_rfl
theorem heads : Tryd.prog.make = some .cut ∧ Tryd.prog.liftsFinal = false ∧ Tryd.prog.mayEnter = true := by
  obtain ⟨rest, h1, h2, h3, h4⟩ := words0
  have h : behindMainWord (wordsSigns Tryd.prog.initOrder.toList) = wd [99, 117, 116] :: rest := by rw [h1, behind, h2]
  exact ⟨make_of h, liftsFinal_of h h3, mayEnter_of h h3 h4 (by kernel_rfl) (by kernel_rfl) (by kernel_rfl)⟩
theorem laidOut : laidOutB Tryd.prog = true := by kernel_rfl
theorem mapsRowed : mapsRowed Tryd.prog = true := by kernel_rfl
theorem stops : Tryd.prog.stops = [] := by kernel_rfl
theorem stopKnobs : Tryd.prog.stopKnobs = [] := by kernel_rfl
theorem stopsHeard : Tryd.prog.stopsHeard = true := by kernel_rfl
theorem plainKeys : Tryd.prog.plainKeys = false := by kernel_rfl
theorem own : ownKnob Tryd.prog.godebug = none := by kernel_rfl
theorem joined_of {P : Program} {f : FuncId} {fn : Func} {s : ChangeSpec} {c : OpenClaim} (mk : P.make = some .cut ∧ P.liftsFinal = false ∧ P.mayEnter = true)
    (h1 : laidOutB P = true) (h2 : Go.mapsRowed P = true) (h3 : P.stops = []) (h4 : P.stopKnobs = []) (h5 : P.stopsHeard = true) (h6 : P.plainKeys = false)
    (c1 : c.lifted = false) (c2 : c.make = .cut) (c3 : c.plainKeys = false) (c4 : c.stops = []) (c5 : c.knobs = []) (c6 : c.shortTexts.isNone = true)
    (r0 : c.wf (OpenSpec.ofChange s) = true) (r1 : (fn.params.all (P.readableRec ·) && namedTie P c.named s.vars) = true)
    (r2 : c.inPlace = P.inPlace f) (r3 : c.unfollowed = P.unfollowed f) (r4 : c.recurses = P.recurses f) (r5 : c.named = P.varsNamed f)
    (r6 : ((c.maps == (fn.params.toList ++ s.plain.varTypes P).any (P.mapsRec ·)) && (c.ifaces == (fn.params.toList ++ s.plain.varTypes P).any (P.ifacesRec ·)) && (c.mapsOut == P.mapsAmong fn.resultTypes.toList) &&
      (c.loops == (fn.params.toList ++ s.plain.varTypes P).any (P.loopsFrom ·)) && (c.wideKeys == (fn.params.toList ++ s.plain.varTypes P ++ fn.resultTypes.toList).any (P.wideKeysFrom ·)) &&
      s.vars.all (P.varReadable ·) && fn.resultTypes.all (fun t => P.readableRec t && decide (t < P.types.size)) && (c.ifacesOut == fn.resultTypes.toList.any (P.ifacesRec ·)) && (c.loopsOut == fn.resultTypes.toList.any (P.loopsFrom ·)) &&
      (c.kinds == (if c.domain.isEmpty then [] else fn.params.toList.map fun t => match P.underlying t with | some (.int k) => some k | _ => none)) && (c.pinned == c.pinnedBy) &&
      (c.veiled == (fn.params.toList ++ s.plain.varTypes P ++ fn.resultTypes.toList).any (P.veiledRec ·)) && c.veiledFits P fn.params.toList (fn.params.toList ++ s.plain.varTypes P ++ fn.resultTypes.toList)) = true) :
    joinedFacts P f fn s c = true := by
  obtain ⟨m1, m2, m3⟩ := mk
  simp only [Bool.and_eq_true] at r1 r6
  obtain ⟨⟨⟨⟨⟨⟨⟨⟨⟨⟨⟨⟨a1, a2⟩, a3⟩, a4⟩, a5⟩, a6⟩, a7⟩, a8⟩, a9⟩, a10⟩, a11⟩, a12⟩, a13⟩ := r6
  unfold joinedFacts
  simp only [r0, h1, r1.1, r1.2, c4, c5, h3, h4, r2.symm, r3.symm, r4.symm, r5.symm, a1, a2, a3, a4, a5, a6, a7, a8, a9, a11, a12, a13, c1, c2, c3, h5, h6, m1, m2, m3, c6, beq_self_eq_true, Bool.and_true, Bool.true_and]
  rw [h2, Bool.true_and]
  exact a10
theorem reads_same {H : Type} {enc : TypeId × Value → H} {W W' : World} (b : Below W.heap.size W W') {t : TypeId} (hr : Tryd.prog.readableRec t = true) (ht : t < Tryd.prog.types.size) {v : Value} {d : DataW H} {ps : List MemPlace}
    (h : DataW.Trod enc Tryd.prog W 0 (fun _ => true) true t v d ps) : DataW.Trod enc Tryd.prog W' 0 (fun b => decide (b < W.heap.size)) true t v d ps :=
  Below.trod laidOut hr ht h b (by obtain ⟨m, hm⟩ := h; exact DataW.trod_lt m _ _ _ hm)
end Go.Proofs.YthbojpaghbbnnaaDoor.Facts
