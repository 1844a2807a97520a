/- Steps of the plain audit. -/
import Derived.Test.YteemkceceaabkaaGreatAx0
set_option linter.unusedSimpArgs false
set_option linter.unusedVariables false
namespace Go.Proofs.YteemkceceaabkaaGreat
open Go.RowKit Go.Ear
theorem Au.nd_at {s : Au} {i : Nat} {x : Nd} (hx : s.nodes[i]? = some x) : s.nd (i : Int) = x := by
  unfold Au.nd
  rw [Int.toNat_natCast, List.getD_eq_getElem?_getD, hx]
  rfl
theorem step_no {n f : Int} {s : Au} {e : Ev} {x : Nd} {i : Nat} (hi : e.node = i) (hx : s.nodes[i]? = some x) (h : ¬ (s.fits e ∧ x.lives e ∧ Au.good n f s x e)) : s.step n f e = none := by
  unfold Au.step
  rw [hi, Au.nd_at hx, if_neg]
  rintro ⟨_, _, h1, h2, h3⟩
  exact h ⟨h1, h2, h3⟩
theorem step_yes {n f : Int} {s : Au} {e : Ev} {x : Nd} {i : Nat} (hfit : e.fit n) (hb : e.bare) (hi : e.node = i) (hx : s.nodes[i]? = some x) (h1 : s.fits e) (h2 : x.lives e) (h3 : Au.good n f s x e) :
    s.step n f e = some ⟨s.nodes.set i (x.next e), decide (e.kind = 3 ∨ e.kind = 4), if e.kind = 3 then e else s.shut, if e.kind = 4 then e.of else -1⟩ := by
  unfold Au.step
  rw [hi, Au.nd_at hx, if_pos ⟨hfit, hb, h1, h2, h3⟩]
  rfl
end Go.Proofs.YteemkceceaabkaaGreat
