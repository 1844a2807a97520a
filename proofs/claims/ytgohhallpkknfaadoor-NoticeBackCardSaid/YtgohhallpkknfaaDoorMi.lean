/- Maps keyed by whole numbers, entry by entry. -/
import Derived.Test.YtgohhallpkknfaaDoorK
import Derived.Maps.Own
namespace Go.Ear
open Go.RowKit Go.ChangeMaps Go.WideMaps Go.WideElems
set_option linter.unusedSimpArgs false

/-- What a key's entry is. -/
def mlook : List (Int × Value) → Int → Option Value
  | [], _ => none
  | p :: l, a => if p.1 = a then some p.2 else mlook l a
/-- Block b is a map with these entries, keyed by whole numbers of kind k. -/
def MapIs (w : World) (b : Nat) (k : IntKind) (l : List (Int × Value)) : Prop :=
  ∃ es clock, w.heap[b]? = some (.map es clock) ∧ es.toList.map (fun e => (e.key, e.val)) = l.map (fun p => (Value.int k p.1, p.2))
theorem MapIs.lt {w : World} {b : Nat} {k : IntKind} {l : List (Int × Value)} (h : MapIs w b k l) : b < w.heap.size := by
  obtain ⟨es, clock, hb, _⟩ := h
  exact (Array.getElem?_eq_some_iff.1 hb).1
theorem MapIs.keep {w w' : World} {b : Nat} {k : IntKind} {l : List (Int × Value)} (h : MapIs w b k l) (hb : w'.heap[b]? = w.heap[b]?) : MapIs w' b k l := by
  obtain ⟨es, clock, h1, h2⟩ := h
  exact ⟨es, clock, hb.trans h1, h2⟩
theorem MapIs.grow {F : Nat → Prop} {w w' : World} {b : Nat} {k : IntKind} {l : List (Int × Value)} (h : MapIs w b k l) (hc : Chg F w w') (hF : ¬ F b) : MapIs w' b k l :=
  h.keep (hc.block b h.lt hF)
theorem MapIs.made (w : World) (k : IntKind) : MapIs (w.alloc (.map #[] 0)) w.heap.size k [] := ⟨#[], 0, heap_alloc_new _ _, rfl⟩
theorem find_ent {k : IntKind} {a : Int} : ∀ (es : List MapEntry) (l : List (Int × Value)) (i : Nat), es.map (fun e => (e.key, e.val)) = l.map (fun p => (Value.int k p.1, p.2)) →
    (mlook l a = none → Instr.findNow (.int k) (.int k a) es i = some none) ∧ ∀ v, mlook l a = some v → ∃ j, Instr.findNow (.int k) (.int k a) es i = some (some (j, v))
  | [], [], i, _ => ⟨fun _ => rfl, fun v h => by simp [mlook] at h⟩
  | [], p :: l, i, h => by simp at h
  | e :: es, [], i, h => by simp at h
  | e :: es, p :: l, i, h => by
    simp only [List.map_cons, List.cons.injEq, Prod.mk.injEq] at h
    obtain ⟨⟨hk, hv⟩, hr⟩ := h
    obtain ⟨h1, h2⟩ := find_ent (a := a) es l (i + 1) hr
    by_cases hp : p.1 = a
    · have e1 : mlook (p :: l) a = some p.2 := by simp [mlook, hp]
      have e2 : Instr.findNow (.int k) (.int k a) (e :: es) i = some (some (i, e.val)) := by simp [Instr.findNow, Instr.sameNow, hk, hp]
      rw [e1, e2]
      exact ⟨fun h => by simp at h, fun v h => ⟨i, by simp at h; rw [hv, h]⟩⟩
    · have e1 : mlook (p :: l) a = mlook l a := by simp [mlook, hp]
      have hp' : (a == p.1) = false := by rw [beq_eq_false_iff_ne]; exact fun h => hp h.symm
      have e2 : Instr.findNow (.int k) (.int k a) (e :: es) i = Instr.findNow (.int k) (.int k a) es (i + 1) := by simp only [Instr.findNow, Instr.sameNow, hk, if_true, hp']
      rw [e1, e2]
      exact ⟨h1, h2⟩
section
variable {P : Program} {w : World} {t kt e : TypeId} {k : IntKind} {b : Nat} {l : List (Int × Value)}
theorem MapIs.lookup_some (h : MapIs w b k l) (ht : P.underlying t = some (.map kt e)) (hk : P.underlying kt = some (.int k)) (a : Int) (v : Value) (hv : mlook l a = some v) :
    (Instr.lookup t (.map (some b)) (.int k a) true).run P w = .ok (.tuple #[v, .bool true]) w := by
  obtain ⟨es, clock, hb, he⟩ := h
  obtain ⟨j, hj⟩ := (find_ent (a := a) es.toList l 0 he).2 v hv
  simp [Instr.lookup, run_underlying ht, MapKept.run_getObj_map hb, MapKept.run_checkKey hk (k := .int k a) rfl, MapKept.run_findKey hk hj, Result.andThen]
theorem MapIs.lookup_none (h : MapIs w b k l) (ht : P.underlying t = some (.map kt e)) (hk : P.underlying kt = some (.int k)) (a : Int) {z : Value} (hz : (zeroValue e).run P w = .ok z w) (hv : mlook l a = none) :
    (Instr.lookup t (.map (some b)) (.int k a) true).run P w = .ok (.tuple #[z, .bool false]) w := by
  obtain ⟨es, clock, hb, he⟩ := h
  have hj := (find_ent (a := a) es.toList l 0 he).1 hv
  simp [Instr.lookup, run_underlying ht, MapKept.run_getObj_map hb, MapKept.run_checkKey hk (k := .int k a) rfl, MapKept.run_findKey hk hj, hz, Result.andThen]
/-- A store at a key that is not there. -/
theorem MapIs.put_new (h : MapIs w b k l) (ht : P.underlying t = some (.map kt e)) (hk : P.underlying kt = some (.int k)) (a : Int) (v : Value) (hv : mlook l a = none) :
    ∃ w', (Instr.mapUpdate t (.map (some b)) (.int k a) v).run P w = .ok () w' ∧ MapIs w' b k (l ++ [(a, v)]) ∧ w.grownBy w' (some b) := by
  obtain ⟨es, clock, hb, he⟩ := h
  have hj := (find_ent (a := a) es.toList l 0 he).1 hv
  have hrun : (Instr.mapUpdate t (.map (some b)) (.int k a) v).run P w = .ok () (setBlock w b (.map (es.push { key := .int k a, val := v, born := clock }) (clock + 1))) := by
    simp [Instr.mapUpdate, run_underlying ht, MapKept.run_getObj_map hb, MapKept.run_checkKey hk (k := .int k a) rfl, MapKept.run_findKey hk hj, MapKept.run_setObj_map _ hb, Result.andThen]
    rfl
  exact ⟨_, hrun, ⟨_, _, heap_setBlock_same hb _, by simp [he]⟩, ⟨rfl, rfl, rfl, by simp [setBlock], fun i _ hi => heap_setBlock_other hb _ (fun e => hi (by rw [e]))⟩⟩
end
end Go.Ear
