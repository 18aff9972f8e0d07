/- A map of edges (keys: arrays of two ints; elements: true), as the list of its keys in the order in which they came. Plain laws on the map's operations; no condition. -/
import Derived.Test.YthbojpaghbbnnaaFacts
import Derived.Test.YthbojpaghbbnnaaA
import Derived.Maps.Keyed
import Derived.Maps.RangeWalk
namespace Go.Proofs.Ythbojpaghbbnnaa
open Go.RowKit Go.WideMaps Go.Maps Go.MapKept
open Go.ChangeMaps (setBlock)
set_option linter.unusedVariables false
set_option linter.unusedSimpArgs false

def kv (u v : Int) : Value := .agg #[.int .i64 u, .int .i64 v]
def Wf (n : Int) : Prop := -9223372036854775808 ≤ n ∧ n ≤ 9223372036854775807
theorem wf_lit {n : Int} (h : Wf n) : (Lit.int .i64 n).wf = true := by
  unfold Wf at h
  simp [Lit.wf, IntKind.min, IntKind.max, IntKind.signed, IntKind.bits]
  omega
theorem typesSize : Try.prog.types.size = 192 := by kernel_rfl
theorem keyRow : 121 < Try.prog.types.size := by rw [typesSize]; omega
theorem keyAt : Try.prog.keyTypeAt 2 121 = true := by kernel_rfl
theorem Kk : Keyed Try.prog 121 := Keyed.of_law (deep_law_laid Facts.laidOut (m := 2) (by decide) keyRow keyAt (by kernel_rfl))
theorem keyType_ : Try.prog.keyType 121 = true := by kernel_rfl
theorem cellsKey : Try.prog.cellsOf 121 = 2 := by kernel_rfl
theorem cellsInt : Try.prog.cellsOf 3 = 1 := by kernel_rfl
theorem key_some {u v : Int} (hu : Wf u) (hv : Wf v) : ∃ l, keyOf Try.prog 121 (kv u v) = some l := by
  have h1 := wf_lit hu
  have h2 := wf_lit hv
  obtain ⟨d, hd⟩ : ∃ d, Try.prog.types.size = d + 1 := ⟨192 - 1, by rw [typesSize]⟩
  have hf : (kv u v).formed Try.prog 121 = true := by
    unfold kv Value.formed
    rw [Try.underlying121, cellsKey]
    rfl
  have hk : ∃ ls, Try.prog.keyLits (Try.prog.types.size + 1) 121 (kv u v).cells.toList = some ls := by
    rw [hd]
    unfold Program.keyLits
    simp only [Try.underlying121, kv, Value.cells, cellsKey, cellsInt]
    unfold Program.keyLits
    simp [List.range_succ, Try.underlying3, h1, h2]
  obtain ⟨ls, hls⟩ := hk
  unfold keyOf
  rw [Try.underlying121]
  simp only [keyType_, hf, hls]
  exact ⟨_, rfl⟩
theorem kv_inj {u v u' v' : Int} (h : kv u v = kv u' v') : u = u' ∧ v = v' := by
  unfold kv at h
  injection h with h
  simp at h
  exact h

def pv (p : Int × Int) : Value × Value := (kv p.1 p.2, .bool true)
/-- Block m is the map of the edges E, in the order in which they came. -/
def EMap (w : World) (m : Nat) (E : List (Int × Int)) : Prop :=
  ∃ es clock, w.heap[m]? = some (.map es clock) ∧ Stamped es clock ∧ es.toList.map (fun x => (x.key, x.val)) = E.map pv ∧ ∀ p ∈ E, Wf p.1 ∧ Wf p.2

theorem pv_inj : Function.Injective pv := by
  intro p q h
  unfold pv at h
  have := kv_inj (congrArg Prod.fst h)
  exact Prod.ext this.1 this.2
theorem EMap.lt {w : World} {m : Nat} {E : List (Int × Int)} (h : EMap w m E) : m < w.heap.size := by
  obtain ⟨es, clock, h1, _⟩ := h
  exact (Array.getElem?_eq_some_iff.1 h1).1
theorem EMap.frame {w w' : World} {m : Nat} {E : List (Int × Int)} (h : EMap w m E) (hb : w'.heap[m]? = w.heap[m]?) : EMap w' m E := by
  obtain ⟨es, clock, h1, h2⟩ := h
  exact ⟨es, clock, hb.trans h1, h2⟩
theorem EMap.nodup {w : World} {m : Nat} {E : List (Int × Int)} (h : EMap w m E) : E.Nodup := by
  obtain ⟨es, clock, h1, h2, h3, h4⟩ := h
  have hp := ((stamped_iff es clock).1 h2).2.2
  have : (E.map pv).Nodup := by
    rw [← h3]
    unfold List.Nodup
    rw [List.pairwise_map]
    exact hp.imp (fun hne e => hne (congrArg Prod.fst e))
  rw [List.Nodup, List.pairwise_map] at this
  exact this.imp (fun hne e => hne (by rw [e]))
theorem EMap.keys {E : List (Int × Int)} {es : Array MapEntry} (h3 : es.toList.map (fun x => (x.key, x.val)) = E.map pv) : ∀ x ∈ es.toList, ∃ p ∈ E, x.key = kv p.1 p.2 ∧ x.val = .bool true := by
  intro x hx
  have : (x.key, x.val) ∈ E.map pv := by rw [← h3]; exact List.mem_map_of_mem hx
  obtain ⟨p, hp, e⟩ := List.mem_map.1 this
  exact ⟨p, hp, (congrArg Prod.fst e).symm, (congrArg Prod.snd e).symm⟩
theorem EMap.find {w : World} {E : List (Int × Int)} {es : Array MapEntry} (h3 : es.toList.map (fun x => (x.key, x.val)) = E.map pv) (h4 : ∀ p ∈ E, Wf p.1 ∧ Wf p.2) {u v : Int} (hu : Wf u) (hv : Wf v) :
    ((Instr.findKey 121 (kv u v) es.toList).run Try.prog w = .ok none w ∧ (u, v) ∉ E ∧ ∀ x ∈ es.toList, x.key ≠ kv u v) ∨
    ∃ j e, (Instr.findKey 121 (kv u v) es.toList).run Try.prog w = .ok (some (j, .bool true)) w ∧ es.toList[j]? = some e ∧ e.key = kv u v ∧ e.val = .bool true ∧ E[j]? = some (u, v) := by
  obtain ⟨l, hl⟩ := key_some hu hv
  have hk : ∀ e ∈ es.toList, ∃ l, keyOf Try.prog 121 e.key = some l := by
    intro e he
    obtain ⟨p, hp, e1, _⟩ := EMap.keys h3 e he
    rw [e1]
    exact key_some (h4 p hp).1 (h4 p hp).2
  rcases Kk.find w hl es.toList hk with ⟨h1, h2⟩ | ⟨j, e, h1, h2, h5⟩
  · refine .inl ⟨h1, fun hm => ?_, h2⟩
    have : pv (u, v) ∈ es.toList.map (fun x => (x.key, x.val)) := by rw [h3]; exact List.mem_map_of_mem hm
    obtain ⟨x, hx, e⟩ := List.mem_map.1 this
    exact h2 x hx (congrArg Prod.fst e)
  · have hj := congrArg (fun l => l[j]?) h3
    simp only [List.getElem?_map, h2, Option.map_some] at hj
    have hjE : ∃ q, E[j]? = some q ∧ (e.key, e.val) = pv q := by
      cases hq : E[j]? with
      | none => rw [hq] at hj; cases hj
      | some q => rw [hq] at hj; exact ⟨q, rfl, Option.some.inj hj⟩
    obtain ⟨q, hq, eq⟩ := hjE
    have ev : e.val = .bool true := congrArg Prod.snd eq
    have ek : kv u v = kv q.1 q.2 := by rw [← h5]; exact congrArg Prod.fst eq
    have := kv_inj ek
    refine .inr ⟨j, e, by rw [h1, ev], h2, h5, ev, ?_⟩
    rw [hq, this.1, this.2]
theorem zero4 (w : World) : (zeroValue 4).run Try.prog w = .ok (.bool false) w := by kernel_rfl
theorem EMap.lookup {w : World} {m : Nat} {E : List (Int × Int)} (h : EMap w m E) {u v : Int} (hu : Wf u) (hv : Wf v) :
    (Instr.lookup 117 (.map (some m)) (kv u v) false).run Try.prog w = .ok (.bool (decide ((u, v) ∈ E))) w := by
  obtain ⟨es, clock, hb, h2, h3, h4⟩ := h
  obtain ⟨l, hl⟩ := key_some hu hv
  rcases EMap.find (w := w) h3 h4 hu hv with ⟨h1, h5, _⟩ | ⟨j, e, h1, _, _, _, h6⟩
  · simp [Instr.lookup, run_underlying Try.underlying117, MapKept.run_getObj_map hb, Kk.check w _ hl, h1, zero4, Result.andThen, h5]
  · have : (u, v) ∈ E := List.mem_of_getElem? h6
    simp [Instr.lookup, run_underlying Try.underlying117, MapKept.run_getObj_map hb, Kk.check w _ hl, h1, Result.andThen, this]
theorem modify_same {es : Array MapEntry} {j : Nat} {e : MapEntry} (h : es.toList[j]? = some e) (f : MapEntry → MapEntry) (hf : f e = e) : es.modify j f = es := by
  apply Array.ext_getElem?
  intro i
  rw [Array.getElem?_modify]
  split
  · rename_i hji
    subst hji
    rw [Array.getElem?_toList] at h
    rw [h]
    simp [hf]
  · rfl
theorem setBlock_same {w : World} {m : Nat} {o : Obj} (h : w.heap[m]? = some o) : setBlock w m o = w := by
  have : w.heap.setIfInBounds m o = w.heap := by
    apply Array.ext_getElem?
    intro i
    rw [Array.getElem?_setIfInBounds]
    split
    · rename_i e
      subst e
      obtain ⟨hlt, _⟩ := Array.getElem?_eq_some_iff.1 h
      rw [if_pos hlt]
      exact h.symm
    · rfl
  simp [setBlock, this]
def addE (E : List (Int × Int)) (p : Int × Int) : List (Int × Int) := if p ∈ E then E else E ++ [p]
theorem EMap.update {w : World} {m : Nat} {E : List (Int × Int)} (h : EMap w m E) {u v : Int} (hu : Wf u) (hv : Wf v) :
    ∃ w', (Instr.mapUpdate 117 (.map (some m)) (kv u v) (.bool true)).run Try.prog w = .ok () w' ∧ EMap w' m (addE E (u, v)) ∧ w.grownBy w' (some m) ∧ w'.heap.size = w.heap.size := by
  have hh := h
  obtain ⟨es, clock, hb, h2, h3, h4⟩ := h
  obtain ⟨l, hl⟩ := key_some hu hv
  rcases EMap.find (w := w) h3 h4 hu hv with ⟨h1, h5, h6⟩ | ⟨j, e, h1, h5, h6, h7, h8⟩
  · refine ⟨setBlock w m (.map (es.push ⟨kv u v, .bool true, clock⟩) (clock + 1)), ?_, ⟨_, _, ChangeMaps.heap_setBlock_same hb _, stamped_push h2 h6, ?_, ?_⟩, ⟨rfl, rfl, rfl, by simp [setBlock], fun i _ hi => ChangeMaps.heap_setBlock_other hb _ (fun e => hi (by rw [e]))⟩, by simp [setBlock]⟩
    · simp [Instr.mapUpdate, run_underlying Try.underlying117, MapKept.run_getObj_map hb, Kk.check w false hl, h1, MapKept.run_setObj_map _ hb, Result.andThen, setBlock]
    · rw [addE, if_neg h5, Array.toList_push, List.map_append, h3, List.map_append]
      rfl
    · intro p hp
      rw [addE, if_neg h5] at hp
      rcases List.mem_append.1 hp with hp | hp
      · exact h4 p hp
      · rw [List.mem_singleton.1 hp]; exact ⟨hu, hv⟩
  · have hm : (u, v) ∈ E := List.mem_of_getElem? h8
    refine ⟨w, ?_, by rw [addE, if_pos hm]; exact hh, World.grownBy.refl _ _, rfl⟩
    have e1 : es.modify j (fun x => { x with key := kv u v, val := Value.bool true }) = es := modify_same h5 _ (by cases e; simp_all)
    have e2 : ((es[j]?).map (·.key)).getD (kv u v) = kv u v := by
      rw [Array.getElem?_toList] at h5
      rw [h5]; simpa using h6
    have e3 := setBlock_same hb
    simp only [Instr.mapUpdate, run_underlying Try.underlying117, MapKept.run_getObj_map hb, Kk.check w false hl, h1, Sem.run_bind, Result.andThen, e2, Kk.stays w hl, MapKept.run_setObj_map _ hb, e1]
    unfold setBlock at e3
    rw [e3]
theorem filter_eraseIdx {α : Type} [DecidableEq α] : ∀ (l : List α) (j : Nat) (x : α), l.Nodup → l[j]? = some x → l.filter (· ≠ x) = l.eraseIdx j
  | [], j, x, _, h => by simp at h
  | y :: l, 0, x, hn, h => by
    obtain rfl : y = x := by simpa using h
    have := (List.nodup_cons.1 hn).1
    rw [List.filter_cons, if_neg (by simp), List.eraseIdx_cons_zero]
    exact List.filter_eq_self.2 (fun z hz => by simp; intro e; exact this (e ▸ hz))
  | y :: l, j + 1, x, hn, h => by
    have h' : l[j]? = some x := by simpa using h
    have hne : y ≠ x := fun e => (List.nodup_cons.1 hn).1 (e ▸ List.mem_of_getElem? h')
    rw [List.filter_cons, if_pos (by simpa using hne), List.eraseIdx_cons_succ, filter_eraseIdx l j x (List.nodup_cons.1 hn).2 h']
theorem EMap.delete {w : World} {m : Nat} {E : List (Int × Int)} (h : EMap w m E) {u v : Int} (hu : Wf u) (hv : Wf v) (ty : TypeId) :
    ∃ w', (Builtin.delete_ #[117, 121] ty #[.map (some m), kv u v]).run Try.prog w = .ok (.tuple #[]) w' ∧ EMap w' m (E.filter (· ≠ (u, v))) ∧ w.grownBy w' (some m) ∧ w'.heap.size = w.heap.size := by
  have hh := h
  have hnd := h.nodup
  obtain ⟨es, clock, hb, h2, h3, h4⟩ := h
  obtain ⟨l, hl⟩ := key_some hu hv
  rcases EMap.find (w := w) h3 h4 hu hv with ⟨h1, h5, h6⟩ | ⟨j, e, h1, h5, h6, h7, h8⟩
  · refine ⟨w, ?_, ?_, World.grownBy.refl _ _, rfl⟩
    · have e3 := setBlock_same hb
      unfold setBlock at e3
      simp [Builtin.delete_, run_underlying Try.underlying117, MapKept.run_getObj_map hb, Kk.check w _ hl, h1, MapKept.run_setObj_map _ hb, Result.andThen, e3]
    · rw [List.filter_eq_self.2 (fun p hp => by simp; intro e; exact h5 (e ▸ hp))]
      exact hh
  · have hjl : j < es.toList.length := (List.getElem?_eq_some_iff.1 h5).1
    have hsub : (es.eraseIdxIfInBounds j).toList = es.toList.eraseIdx j := by
      unfold Array.eraseIdxIfInBounds
      rw [dif_pos (by simpa using hjl)]
      simp
    have hE : E.filter (· ≠ (u, v)) = E.eraseIdx j := filter_eraseIdx E j (u, v) hnd h8
    refine ⟨setBlock w m (.map (es.eraseIdxIfInBounds j) clock), ?_, ⟨_, _, ChangeMaps.heap_setBlock_same hb _, stamped_erase h2 j, ?_, ?_⟩, ⟨rfl, rfl, rfl, by simp [setBlock], fun i _ hi => ChangeMaps.heap_setBlock_other hb _ (fun e => hi (by rw [e]))⟩, by simp [setBlock]⟩
    · simp [Builtin.delete_, run_underlying Try.underlying117, MapKept.run_getObj_map hb, Kk.check w _ hl, h1, MapKept.run_setObj_map _ hb, Result.andThen, setBlock]
    · rw [hE, hsub, ChangeMaps.map_eraseIdx, h3, ← ChangeMaps.map_eraseIdx]
    · intro p hp
      exact h4 p (List.mem_filter.1 hp).1
end Go.Proofs.Ythbojpaghbbnnaa
