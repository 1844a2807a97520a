/- The table of an auditor's methods by kinds; what event comes to. -/
import Derived.Test.YteemkceceaabkaaGreatAx1
import Derived.Test.YteemkceceaabkaaGreatAx2
import Derived.Test.YteemkceceaabkaaGreatAx3
import Derived.Test.YteemkceceaabkaaGreatAx4
import Derived.Test.YteemkceceaabkaaGreatMi
import Derived.Deep.RegionLaw
set_option linter.unusedSimpArgs false
set_option linter.unusedVariables false
namespace Go.Proofs.YteemkceceaabkaaGreat
open Go.RowKit Go.Ear Go.ChangeMaps
set_option maxHeartbeats 4000000
set_option maxRecDepth 100000
set_option linter.unusedSimpArgs false
/-- A store at a new key of a map that has just been made. -/
theorem up_new (W : World) (es : Array MapEntry) (c : Nat) (k : Int) (v : Value) (b : Nat) (hb : W.heap.size = b) (hf : Instr.findNow (.int .i64) (.int .i64 k) es.toList 0 = some none) :
    (Instr.mapUpdate 179 (.map (some b)) (.int .i64 k) v).run Tryz.prog (W.alloc (.map es c)) = .ok () (W.alloc (.map (es.push { key := .int .i64 k, val := v, born := c }) (c + 1))) := by
  subst hb
  have h0 := heap_alloc_new W (.map es c)
  have e : setBlock (W.alloc (.map es c)) W.heap.size (.map (es.push { key := .int .i64 k, val := v, born := c }) (c + 1)) = W.alloc (.map (es.push { key := .int .i64 k, val := v, born := c }) (c + 1)) := by
    simp only [setBlock, World.alloc, World.mk.injEq, and_true]
    refine Array.ext_getElem? fun i => ?_
    rw [Array.getElem?_setIfInBounds, Array.getElem?_push, Array.getElem?_push]
    by_cases h : i = W.heap.size
    · subst h; simp
    · simp [h, Ne.symm h]
  rw [← e]
  simp [Instr.mapUpdate, run_underlying Tryz.underlying179, MapKept.run_getObj_map h0, MapKept.run_checkKey Tryz.underlying3 (k := .int .i64 k) rfl, MapKept.run_findKey Tryz.underlying3 hf, MapKept.run_setObj_map _ h0, Result.andThen]
  rfl
/-- A method of the auditor as a value. -/
abbrev mv (f p : Nat) : Value := .func (.func f) #[.pointer (some ⟨p, 0, none⟩)] #[]
abbrev ent (k : Int) (f p c : Nat) : MapEntry := { key := .int .i64 k, val := mv f p, born := c }
abbrev F1 : Nat := 137
abbrev F2 : Nat := 138
abbrev F3 : Nat := 139
abbrev F4 : Nat := 140
abbrev F5 : Nat := 141
abbrev F6 : Nat := 142
def kindsOf (p : Nat) : List (Int × Value) := [(1, mv F1 p), (2, mv F2 p), (3, mv F3 p), (4, mv F4 p), (5, mv F5 p), (6, mv F6 p)]
def kindsObj (p : Nat) : Obj := .map #[ent 1 F1 p 0, ent 2 F2 p 1, ent 3 F3 p 2, ent 4 F4 p 3, ent 5 F5 p 4, ent 6 F6 p 5] 6
theorem kinds_is (W : World) (p : Nat) : MapIs (W.alloc (kindsObj p)) W.heap.size .i64 (kindsOf p) := ⟨_, _, heap_alloc_new _ _, rfl⟩
theorem zero_fun (w : World) : (zeroValue 177).run Tryz.prog w = .ok .nilFunc w := by kernel_rfl
theorem kinds_none (W : World) (p b : Nat) (hb : W.heap.size = b) (k : Int) (hk : k < 1 ∨ 6 < k) : (Instr.lookup 179 (.map (some b)) (.int .i64 k) true).run Tryz.prog (W.alloc (kindsObj p)) = .ok (.tuple #[.nilFunc, .bool false]) (W.alloc (kindsObj p)) := by
  subst hb
  refine (kinds_is W p).lookup_none Tryz.underlying179 Tryz.underlying3 k (zero_fun _) ?_
  simp only [kindsOf, mlook]
  repeat rw [if_neg (by omega)]
theorem kinds_some (W : World) (p b : Nat) (hb : W.heap.size = b) (k : Int) (v : Value) (hk : mlook (kindsOf p) k = some v) : (Instr.lookup 179 (.map (some b)) (.int .i64 k) true).run Tryz.prog (W.alloc (kindsObj p)) = .ok (.tuple #[v, .bool true]) (W.alloc (kindsObj p)) := by
  subst hb
  exact (kinds_is W p).lookup_some Tryz.underlying179 Tryz.underlying3 k v hk
/-- All six stores, one behind the other. -/
theorem ups (W : World) (p b : Nat) (hb : W.heap.size = b) :
    (Instr.mapUpdate 179 (.map (some b)) (.int .i64 1) (mv F1 p)).run Tryz.prog (W.alloc (.map #[] 0)) = .ok () (W.alloc (.map #[ent 1 F1 p 0] 1)) ∧
    (Instr.mapUpdate 179 (.map (some b)) (.int .i64 2) (mv F2 p)).run Tryz.prog (W.alloc (.map #[ent 1 F1 p 0] 1)) = .ok () (W.alloc (.map #[ent 1 F1 p 0, ent 2 F2 p 1] 2)) ∧
    (Instr.mapUpdate 179 (.map (some b)) (.int .i64 3) (mv F3 p)).run Tryz.prog (W.alloc (.map #[ent 1 F1 p 0, ent 2 F2 p 1] 2)) = .ok () (W.alloc (.map #[ent 1 F1 p 0, ent 2 F2 p 1, ent 3 F3 p 2] 3)) ∧
    (Instr.mapUpdate 179 (.map (some b)) (.int .i64 4) (mv F4 p)).run Tryz.prog (W.alloc (.map #[ent 1 F1 p 0, ent 2 F2 p 1, ent 3 F3 p 2] 3)) = .ok () (W.alloc (.map #[ent 1 F1 p 0, ent 2 F2 p 1, ent 3 F3 p 2, ent 4 F4 p 3] 4)) ∧
    (Instr.mapUpdate 179 (.map (some b)) (.int .i64 5) (mv F5 p)).run Tryz.prog (W.alloc (.map #[ent 1 F1 p 0, ent 2 F2 p 1, ent 3 F3 p 2, ent 4 F4 p 3] 4)) = .ok () (W.alloc (.map #[ent 1 F1 p 0, ent 2 F2 p 1, ent 3 F3 p 2, ent 4 F4 p 3, ent 5 F5 p 4] 5)) ∧
    (Instr.mapUpdate 179 (.map (some b)) (.int .i64 6) (mv F6 p)).run Tryz.prog (W.alloc (.map #[ent 1 F1 p 0, ent 2 F2 p 1, ent 3 F3 p 2, ent 4 F4 p 3, ent 5 F5 p 4] 5)) = .ok () (W.alloc (kindsObj p)) :=
  ⟨up_new W #[] 0 1 _ b hb rfl, up_new W #[ent 1 F1 p 0] 1 2 _ b hb rfl, up_new W #[ent 1 F1 p 0, ent 2 F2 p 1] 2 3 _ b hb rfl, up_new W #[ent 1 F1 p 0, ent 2 F2 p 1, ent 3 F3 p 2] 3 4 _ b hb rfl,
   up_new W #[ent 1 F1 p 0, ent 2 F2 p 1, ent 3 F3 p 2, ent 4 F4 p 3] 4 5 _ b hb rfl, up_new W #[ent 1 F1 p 0, ent 2 F2 p 1, ent 3 F3 p 2, ent 4 F4 p 3, ent 5 F5 p 4] 5 6 _ b hb rfl⟩
/-- What event comes to. -/
def Went (w : World) (p q n f : Nat) (r : Option Au) : Ending → World → Prop := fun en w' =>
  Chg (pq p q) w w' ∧ ((r = none ∧ en = .panicked gaveUp) ∨ ∃ s', r = some s' ∧ en = .returned (.tuple #[]) ∧ AuIs w' p q n f s')
end Go.Proofs.YteemkceceaabkaaGreat
