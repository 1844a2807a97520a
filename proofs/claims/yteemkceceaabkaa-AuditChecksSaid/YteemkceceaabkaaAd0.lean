/- The reference's desk in memory. -/
import Derived.Test.YteemkceceaabkaaAx0
import Derived.Test.YteemkceceaabkaaRs5
set_option linter.unusedSimpArgs false
set_option linter.unusedVariables false
namespace Go.Proofs.Yteemkceceaabkaa
open Go.RowKit Go.Ear
set_option maxHeartbeats 1000000
set_option maxRecDepth 40000
set_option linter.unusedSimpArgs false
def dcells (x : Nd) : List Value := [.bool x.up, iv x.life, iv x.life, iv x.opn, iv x.asked, iv x.tag]
/-- What the cells of a desk say. -/
structure Rep (cs : Array Value) (n f : Nat) (s : Au) : Prop where
  size : cs.size = 619
  c0 : cs[0]? = some (iv n)
  c1 : cs[1]? = some (iv f)
  nd : ∀ (j : Nat) (x : Nd), s.nodes[j]? = some x → ∀ k, k < 6 → cs[2 + j * 6 + k]? = (dcells x)[k]?
  row : cs[602]? = some (.bool s.row)
  shut : ∀ (k : Nat), k < 15 → cs[603 + k]? = s.shut.cells[k]?
  last : ∃ l, cs[618]? = some (iv l) ∧ (s.row = true → l = s.last)
  len : s.nodes.length = n
  n100 : n ≤ 100
  fn : f < n
  ok : s.shut.ok
def DeskRaw (w : World) (p : Nat) (cs : Array Value) : Prop := w.heap[p]? = some (.cells cs 88 (0, 0))
theorem DeskRaw.set {w : World} {p : Nat} {cs : Array Value} (k : Nat) (v : Value) (h : DeskRaw w p cs) : DeskRaw (w.setCell ⟨p, k, none⟩ v) p (cs.setIfInBounds k v) := heap_setCell_same _ _ _ _ _ _ h
theorem DeskRaw.drew {w : World} {p : Nat} {cs : Array Value} (h : DeskRaw w p cs) : DeskRaw w.drew p cs := h
theorem DeskRaw.lt {w : World} {p : Nat} {cs : Array Value} (h : DeskRaw w p cs) : p < w.heap.size := (Array.getElem?_eq_some_iff.1 h).1
theorem DeskRaw.grow {w w' : World} {p : Nat} {cs : Array Value} (h : DeskRaw w p cs) (hc : Chg Noth w w') : DeskRaw w' p cs := (hc.block p h.lt (fun e => e)).trans h
theorem DeskRaw.cell {w : World} {p : Nat} {cs : Array Value} (h : DeskRaw w p cs) {k : Nat} {v : Value} (hv : cs[k]? = some v) : w.cell? ⟨p, k, none⟩ = some v ∧ w.frozen? ⟨p, k, none⟩ = false ∧ HasCell w p k := by
  have hc : w.cell? ⟨p, k, none⟩ = some v := (cell_of_row _ _ _ _ _ _ h).trans hv
  exact ⟨hc, frozen_of_row _ _ _ _ _ h, ⟨by rw [hc]; rfl⟩⟩
/-- Block p is a desk. -/
def DeskIs (w : World) (p n f : Nat) (s : Au) : Prop := ∃ cs, DeskRaw w p cs ∧ Rep cs n f s
theorem DeskIs.grow {w w' : World} {p n f : Nat} {s : Au} (h : DeskIs w p n f s) (hc : Chg Noth w w') : DeskIs w' p n f s := by
  obtain ⟨cs, h1, h2⟩ := h
  exact ⟨cs, h1.grow hc, h2⟩
theorem Rep.node {cs cs' : Array Value} {n f i : Nat} {s : Au} {x y : Nd} (h : Rep cs n f s) (hx : s.nodes[i]? = some x) (hs : cs'.size = 619) (hin : ∀ k, k < 6 → cs'[2 + i * 6 + k]? = (dcells y)[k]?)
    (hout : ∀ m, (m < 2 + i * 6 ∨ 2 + i * 6 + 6 ≤ m) → cs'[m]? = cs[m]?) : Rep cs' n f ⟨s.nodes.set i y, s.row, s.shut, s.last⟩ := by
  have hi : i < s.nodes.length := (List.getElem?_eq_some_iff.1 hx).1
  have hl := h.len
  have h1 := h.n100
  refine ⟨hs, (hout _ (by omega)).trans h.c0, (hout _ (by omega)).trans h.c1, fun j z hz k hk => ?_, (hout _ (by omega)).trans h.row, fun k hk => (hout _ (by omega)).trans (h.shut k hk), ?_, by simpa using h.len, h.n100, h.fn, h.ok⟩
  · by_cases e : i = j
    · subst e
      simp only [List.getElem?_set_self hi, Option.some.injEq] at hz
      subst hz
      exact hin k hk
    · simp only [List.getElem?_set_ne e] at hz
      rw [hout _ (by omega)]
      exact h.nd j z hz k hk
  · obtain ⟨l, e1, e2⟩ := h.last
    exact ⟨l, (hout _ (by omega)).trans e1, e2⟩
theorem Rep.unrow {cs : Array Value} {n f : Nat} {s : Au} (la : Int) (h : Rep cs n f s) : Rep (cs.setIfInBounds 602 (.bool false)) n f ⟨s.nodes, false, s.shut, la⟩ := by
  have hl := h.len
  have h1 := h.n100
  have hg : ∀ m, m ≠ 602 → (cs.setIfInBounds 602 (.bool false))[m]? = cs[m]? := fun m hm => Array.getElem?_setIfInBounds_ne (Ne.symm hm)
  refine ⟨by simpa using h.size, (hg _ (by omega)).trans h.c0, (hg _ (by omega)).trans h.c1, fun j z hz k hk => ?_, Array.getElem?_setIfInBounds_self_of_lt (by rw [h.size]; omega), fun k hk => (hg _ (by omega)).trans (h.shut k hk), ?_, h.len, h.n100, h.fn, h.ok⟩
  · have hj : j < s.nodes.length := (List.getElem?_eq_some_iff.1 hz).1
    exact (hg _ (by omega)).trans (h.nd j z hz k hk)
  · obtain ⟨l, e1, e2⟩ := h.last
    exact ⟨l, (hg _ (by omega)).trans e1, fun h => by cases h⟩
theorem Rep.relast {cs : Array Value} {n f : Nat} {s : Au} (la : Int) (h : Rep cs n f s) : Rep (cs.setIfInBounds 618 (iv la)) n f ⟨s.nodes, s.row, s.shut, la⟩ := by
  have hl := h.len
  have h1 := h.n100
  have hg : ∀ m, m ≠ 618 → (cs.setIfInBounds 618 (iv la))[m]? = cs[m]? := fun m hm => Array.getElem?_setIfInBounds_ne (Ne.symm hm)
  refine ⟨by simpa using h.size, (hg _ (by omega)).trans h.c0, (hg _ (by omega)).trans h.c1, fun j z hz k hk => ?_, (hg _ (by omega)).trans h.row, fun k hk => (hg _ (by omega)).trans (h.shut k hk), ⟨la, Array.getElem?_setIfInBounds_self_of_lt (by rw [h.size]; omega), fun _ => rfl⟩, h.len, h.n100, h.fn, h.ok⟩
  have hj : j < s.nodes.length := (List.getElem?_eq_some_iff.1 hz).1
  exact (hg _ (by omega)).trans (h.nd j z hz k hk)
theorem Rep.lastany {cs : Array Value} {n f : Nat} {s : Au} (la : Int) (h : Rep cs n f s) (hr : s.row = false) : Rep cs n f ⟨s.nodes, s.row, s.shut, la⟩ :=
  ⟨h.size, h.c0, h.c1, h.nd, h.row, h.shut, by obtain ⟨l, e1, _⟩ := h.last; exact ⟨l, e1, fun h' => by rw [hr] at h'; cases h'⟩, h.len, h.n100, h.fn, h.ok⟩
theorem Rep.close {cs cs' : Array Value} {n f : Nat} {s : Au} {e : Ev} (h : Rep cs n f s) (he : e.ok) (hs : cs'.size = 619) (hr : cs'[602]? = some (.bool true)) (hc : ∀ k, k < 15 → cs'[603 + k]? = e.cells[k]?) (hla : cs'[618]? = some (iv (-1)))
    (hout : ∀ m, m < 602 → cs'[m]? = cs[m]?) : Rep cs' n f ⟨s.nodes, true, e, -1⟩ := by
  have hl := h.len
  have h1 := h.n100
  refine ⟨hs, (hout _ (by omega)).trans h.c0, (hout _ (by omega)).trans h.c1, fun j z hz k hk => ?_, hr, hc, ⟨-1, hla, fun _ => rfl⟩, h.len, h.n100, h.fn, he⟩
  have hj : j < s.nodes.length := (List.getElem?_eq_some_iff.1 hz).1
  exact (hout _ (by omega)).trans (h.nd j z hz k hk)
theorem Au.nd_at {s : Au} {i : Nat} {x : Nd} (hx : s.nodes[i]? = some x) : s.nd (i : Int) = x := by
  unfold Au.nd
  rw [Int.toNat_natCast, List.getD_eq_getElem?_getD, hx]
  rfl
theorem step_no {n f : Int} {s : Au} {e : Ev} {x : Nd} {i : Nat} (hi : e.node = i) (hx : s.nodes[i]? = some x) (h : ¬ (s.fits e ∧ x.lives e ∧ Au.good n f s x e)) : s.step n f e = none := by
  unfold Au.step
  rw [hi, Au.nd_at hx, if_neg]
  rintro ⟨_, _, h1, h2, h3⟩
  exact h ⟨h1, h2, h3⟩
theorem step_yes {n f : Int} {s : Au} {e : Ev} {x : Nd} {i : Nat} (hfit : e.fit n) (hb : e.bare) (hi : e.node = i) (hx : s.nodes[i]? = some x) (h1 : s.fits e) (h2 : x.lives e) (h3 : Au.good n f s x e) :
    s.step n f e = some ⟨s.nodes.set i (x.next e), decide (e.kind = 3 ∨ e.kind = 4), if e.kind = 3 then e else s.shut, if e.kind = 4 then e.of else -1⟩ := by
  unfold Au.step
  rw [hi, Au.nd_at hx, if_pos ⟨hfit, hb, h1, h2, h3⟩]
  rfl
/-- What holds comes to. -/
def Held (w : World) (p n f : Nat) (r : Option Au) : Ending → World → Prop := fun en w' =>
  Chg (fun k => k = p) w w' ∧ ((r = none ∧ en = .returned (.bool false)) ∨ ∃ s', r = some s' ∧ en = .returned (.bool true) ∧ DeskIs w' p n f s')
end Go.Proofs.Yteemkceceaabkaa
