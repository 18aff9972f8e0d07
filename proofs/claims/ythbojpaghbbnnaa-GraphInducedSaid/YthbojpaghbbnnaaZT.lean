/- The types that the plain functions use, and that the program's own table of types says so. Closed facts; no condition. -/
import Derived.Test.YthbojpaghbbnnaaZM
namespace Go.Proofs.Ythbojpaghbbnnaa.Z
open Go Go.RowKit
set_option linter.unusedVariables false

def structB (P : Program) (id : TypeId) : Option (List (Nat × TypeId)) :=
  match P.underlying id with
  | some (.struct fs) => some (fs.toList.map fun f => (f.offset, f.type))
  | _ => none
/-- What is asked of one row of the table. -/
structure EntryOk (P : Program) (tab : Tab) (id : TypeId) (i : TI) : Prop where
  info : (P.info? id).map (fun i => (i.zero, i.size, i.bytes)) = some (some (pack i.t (zeroC i.t)), i.t.size, i.bytes)
  pos : 0 < i.bytes
  und : UndOk P tab id i i.u
theorem tab_of {P : Program} {tab : Tab} : ∀ {l : Tab}, (∀ p ∈ l, EntryOk P tab p.1 p.2) → ∀ id i, l.find id = some i → EntryOk P tab id i
  | [], _, id, i, h => by simp [Tab.find] at h
  | (k, j) :: l, hl, id, i, h => by
    unfold Tab.find at h
    split at h
    · rename_i e
      injection h with h
      subst h
      subst e
      exact hl (k, j) (by simp)
    · exact tab_of (fun p hp => hl p (by simp [hp])) id i h
theorem tabOk_of {P : Program} {tab : Tab} (h : ∀ p ∈ tab, EntryOk P tab p.1 p.2) : TabOk P tab where
  info := fun id i hi => by
    have e := tab_of h id i hi
    obtain ⟨inf, h1, h2⟩ := Option.map_eq_some_iff.1 e.info
    simp only [Prod.mk.injEq] at h2
    exact ⟨inf, h1, h2.2.1, h2.2.2, e.pos, h2.1⟩
  und := fun id i hi => (tab_of h id i hi).und
theorem st_ok {P : Program} {tab : Tab} {id : TypeId} {i : TI} {fs : List (Nat × TypeId)} (hp : i.t.isPair = true) (h : structB P id = some fs) (hf : ∀ p ∈ fs, ∃ j, tab.find p.2 = some j) : UndOk P tab id i (.st fs) := by
  refine ⟨hp, ?_⟩
  unfold structB at h
  split at h
  · rename_i fields hu
    injection h with h
    refine ⟨fields, hu, by rw [← h]; simp, fun k hk => ?_⟩
    have hk' : k < fields.size := by rw [← h] at hk; simpa using hk
    obtain ⟨j, hj⟩ := hf (atn (0, 0) fs k) (atn_mem _ _ _ hk)
    have e : atn (0, 0) fs k = (fields[k].offset, fields[k].type) := by
      rw [atn_getElem _ _ _ hk]
      simp only [← h]
      simp
    rw [e] at hj
    exact ⟨fields[k], j, Array.getElem?_eq_getElem hk', by rw [e], by rw [e], hj⟩
  · cases h
abbrev I64 : T := .int .i64
abbrev Pr : T := .pair I64 I64
/-- The document's graph: of each vertex its neighbours. -/
abbrev Rf : T := .one (.list (.list I64))
def tab : Tab := [
  (3, ⟨I64, .sc, 8⟩), (4, ⟨.bool, .sc, 1⟩), (25, ⟨.list I64, .sl 3, 24⟩), (24, ⟨.list .bool, .sl 4, 24⟩),
  (32, ⟨Pr, .st [(0, 3), (1, 3)], 16⟩), (23, ⟨.list Pr, .sl 32, 24⟩), (42, ⟨I64, .sc, 8⟩),
  (27, ⟨.obj 0, .ptr, 8⟩), (54, ⟨.ptr Rf, .ptr, 8⟩), (126, ⟨Rf, .st [(0, 75)], 24⟩),
  (46, ⟨.pair I64 (.pair I64 .bool), .st [(0, 3), (1, 3), (2, 4)], 24⟩), (47, ⟨.list (.pair I64 (.pair I64 .bool)), .sl 46, 24⟩),
  (131, ⟨.pair I64 (.list I64), .st [(0, 3), (1, 25)], 32⟩), (69, ⟨.list (.pair I64 (.list I64)), .sl 131, 24⟩),
  (75, ⟨.list (.list I64), .sl 25, 24⟩), (149, ⟨.pair I64 (.pair I64 I64), .st [(0, 3), (1, 3), (2, 3)], 24⟩), (95, ⟨.list (.pair I64 (.pair I64 I64)), .sl 149, 24⟩),
  (102, ⟨.flt, .sc, 8⟩)]
theorem tabOk : TabOk Try.prog tab := by
  refine tabOk_of ?_
  unfold tab
  simp only [List.forall_mem_cons]
  refine ⟨?_, ?_, ?_, ?_, ?_, ?_, ?_, ?_, ?_, ?_, ?_, ?_, ?_, ?_, ?_, ?_, ?_, ?_, fun p hp => by cases hp⟩
  · exact ⟨by kernel_rfl, by decide, .inl ⟨_, rfl, by kernel_rfl⟩⟩
  · exact ⟨by kernel_rfl, by decide, .inr (.inl ⟨rfl, by kernel_rfl⟩)⟩
  · exact ⟨by kernel_rfl, by decide, by kernel_rfl, _, rfl, rfl⟩
  · exact ⟨by kernel_rfl, by decide, by kernel_rfl, _, rfl, rfl⟩
  · exact ⟨by kernel_rfl, by decide, st_ok rfl (by kernel_rfl) (by simp [Tab.find])⟩
  · exact ⟨by kernel_rfl, by decide, by kernel_rfl, _, rfl, rfl⟩
  · exact ⟨by kernel_rfl, by decide, .inl ⟨_, rfl, by kernel_rfl⟩⟩
  · exact ⟨by kernel_rfl, by decide, rfl, 119, by kernel_rfl⟩
  · exact ⟨by kernel_rfl, by decide, rfl, 126, by kernel_rfl⟩
  · exact ⟨by kernel_rfl, by decide, st_ok rfl (by kernel_rfl) (by simp [Tab.find])⟩
  · exact ⟨by kernel_rfl, by decide, st_ok rfl (by kernel_rfl) (by simp [Tab.find])⟩
  · exact ⟨by kernel_rfl, by decide, by kernel_rfl, _, rfl, rfl⟩
  · exact ⟨by kernel_rfl, by decide, st_ok rfl (by kernel_rfl) (by simp [Tab.find])⟩
  · exact ⟨by kernel_rfl, by decide, by kernel_rfl, _, rfl, rfl⟩
  · exact ⟨by kernel_rfl, by decide, by kernel_rfl, _, rfl, rfl⟩
  · exact ⟨by kernel_rfl, by decide, st_ok rfl (by kernel_rfl) (by simp [Tab.find])⟩
  · exact ⟨by kernel_rfl, by decide, by kernel_rfl, _, rfl, rfl⟩
  · exact ⟨by kernel_rfl, by decide, .inr (.inr ⟨rfl, by kernel_rfl⟩)⟩
end Go.Proofs.Ythbojpaghbbnnaa.Z
