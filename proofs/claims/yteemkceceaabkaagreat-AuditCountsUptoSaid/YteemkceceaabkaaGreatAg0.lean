/- Events in memory. -/
import Derived.Test.YteemkceceaabkaaGreatAdz
namespace Go.Proofs.YteemkceceaabkaaGreat
open Go.RowKit Go.Ear
set_option maxHeartbeats 4000000
set_option maxRecDepth 100000
set_option linter.unusedSimpArgs false
set_option linter.unusedVariables false
/-- Events one behind the other, in cells. -/
def ecells (l : List Ev) : List Value := l.flatMap Ev.cells
theorem Ev.cells_len (e : Ev) : e.cells.length = 15 := rfl
theorem ecells_len : ∀ l : List Ev, (ecells l).length = l.length * 15
  | [] => rfl
  | x :: l => by
    have := ecells_len l
    simp only [ecells, List.flatMap_cons, List.length_append, List.length_cons, List.length_nil, Ev.cells_len] at this ⊢
    omega
theorem ecells_get : ∀ (l : List Ev) (i k : Nat) (x : Ev), l[i]? = some x → k < 15 → (ecells l)[i * 15 + k]? = x.cells[k]?
  | [], i, k, x, h, _ => by simp at h
  | y :: l, 0, k, x, h, hk => by
    simp only [List.getElem?_cons_zero, Option.some.injEq] at h
    subst h
    simp only [ecells, List.flatMap_cons]
    rw [Nat.zero_mul, Nat.zero_add, List.getElem?_append_left (by rw [Ev.cells_len]; exact hk)]
  | y :: l, i + 1, k, x, h, hk => by
    have ih := ecells_get l i k x (by simpa using h) hk
    simp only [ecells, List.flatMap_cons] at ih ⊢
    rw [List.getElem?_append_right (by rw [Ev.cells_len]; omega), Ev.cells_len, show (i + 1) * 15 + k - 15 = i * 15 + k by omega]
    exact ih
/-- A slice of events. -/
def EvsAt (w : World) (A : Option Addr) (c : Nat) (l : List Ev) : Prop := SL w (.slice A l.length c) l.length 15 (ecells l) ∧ ∀ e ∈ l, Ev.ok e
theorem EvsAt.grow {w w' : World} {A : Option Addr} {c : Nat} {l : List Ev} (h : EvsAt w A c l) (hc : Chg Noth w w') : EvsAt w' A c l := ⟨h.1.grow hc, h.2⟩
theorem EvsAt.at {w : World} {A : Option Addr} {c : Nat} {l : List Ev} (h : EvsAt w A c l) {i : Nat} {e : Ev} (he : l[i]? = some e) :
    ∃ b off, A = some ⟨b, off, none⟩ ∧ b < w.heap.size ∧ ∀ k v, e.cells[k]? = some v → w.cell? ⟨b, off + i * 15 + k, none⟩ = some v := by
  obtain ⟨⟨hl, A', c', e1, h0, h1, h2⟩, _⟩ := h
  simp only [Value.slice.injEq, true_and] at e1
  obtain ⟨rfl, rfl⟩ := e1
  have hi : i < l.length := (List.getElem?_eq_some_iff.1 he).1
  obtain ⟨b, off, rfl, hb, hc⟩ := h2 (by omega)
  refine ⟨b, off, rfl, hb, fun k v hv => ?_⟩
  have hk : k < 15 := by have := (List.getElem?_eq_some_iff.1 hv).1; rwa [Ev.cells_len] at this
  rw [Nat.add_assoc]
  exact hc (i * 15 + k) v (by rw [ecells_get l i k e he hk]; exact hv)
end Go.Proofs.YteemkceceaabkaaGreat
