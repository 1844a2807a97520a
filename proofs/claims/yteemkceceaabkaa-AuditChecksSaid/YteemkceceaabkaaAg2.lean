/- The reference's holds at any event. -/
import Derived.Test.YteemkceceaabkaaAh1
import Derived.Test.YteemkceceaabkaaAh2
import Derived.Test.YteemkceceaabkaaAh3
import Derived.Test.YteemkceceaabkaaAh4
import Derived.Test.YteemkceceaabkaaAh5
import Derived.Test.YteemkceceaabkaaAh6
import Derived.Test.YteemkceceaabkaaAh7
import Derived.Test.YteemkceceaabkaaAh8
import Derived.Test.YteemkceceaabkaaAh9
namespace Go.Proofs.Yteemkceceaabkaa
open Go.RowKit Go.Ear
set_option maxHeartbeats 4000000
set_option maxRecDepth 100000
set_option linter.unusedSimpArgs false
set_option linter.unusedVariables false

theorem holds_any (w : World) (p n f : Nat) (s : Au) (e : Ev) (hD : DeskIs w p n f s) (he : e.ok) :
    Calls Try.prog 39 #[.pointer (some ⟨p, 0, none⟩), e.v] w (Held w p n f (s.step n f e)) := by
  by_cases hfit : e.fit n
  case neg => exact holds_unfit w p n f s e hD (.inl hfit)
  by_cases hbr : e.bare
  case neg => exact holds_unfit w p n f s e hD (.inr ⟨hfit, hbr⟩)
  obtain ⟨i, hi⟩ : ∃ i : Nat, e.node = i := ⟨e.node.toNat, by have := hfit.2.2.1; omega⟩
  have hil : i < s.nodes.length := by
    have := hfit.2.2.2.1
    obtain ⟨cs, _, hr⟩ := hD
    have := hr.len
    omega
  obtain ⟨x, hx⟩ : ∃ x, s.nodes[i]? = some x := ⟨_, List.getElem?_eq_getElem hil⟩
  obtain ⟨kind, node, life, round, tag, of, dur, ⟨ha, hb, hc, hd⟩, ⟨ua, ub, uc, ud⟩⟩ := e
  obtain ⟨nodes, row, shut, last⟩ := s
  obtain ⟨up, xlife, asked, xtag, opn⟩ := x
  simp only at hi hx
  subst hi
  have hk1 := hfit.1
  have hk6 := hfit.2.1
  simp only at hk1 hk6
  cases hrow : row
  · subst hrow
    by_cases h4 : kind = 4
    · subst h4
      exact holds_off3 w p n f i nodes shut false last life round tag of dur ha hb hc hd ua ub uc ud up xlife asked xtag opn hD hx he hfit hbr rfl
    · by_cases h1 : kind = 1
      · subst h1
        exact holds_k1 w p n f i nodes shut false last life round tag of dur ha hb hc hd ua ub uc ud up xlife asked xtag opn hD hx he hfit hbr rfl
      · cases hup : up
        · subst hup
          exact holds_dead1a w p n f i nodes shut false last kind life round tag of dur ha hb hc hd ua ub uc ud false xlife asked xtag opn hD hx he hfit hbr rfl h1 h4 rfl
        · subst hup
          by_cases hl : life = xlife
          · rcases (show kind = 2 ∨ kind = 3 ∨ kind = 5 ∨ kind = 6 by omega) with rfl | rfl | rfl | rfl
            · exact holds_k2 w p n f i nodes shut false last life round tag of dur ha hb hc hd ua ub uc ud true xlife asked xtag opn hD hx he hfit hbr rfl rfl hl
            · exact holds_k3 w p n f i nodes shut false last life round tag of dur ha hb hc hd ua ub uc ud true xlife asked xtag opn hD hx he hfit hbr rfl rfl hl
            · exact holds_k5 w p n f i nodes shut false last life round tag of dur ha hb hc hd ua ub uc ud true xlife asked xtag opn hD hx he hfit hbr rfl rfl hl
            · exact holds_k6 w p n f i nodes shut false last life round tag of dur ha hb hc hd ua ub uc ud true xlife asked xtag opn hD hx he hfit hbr rfl rfl hl
          · exact holds_dead1b w p n f i nodes shut false last kind life round tag of dur ha hb hc hd ua ub uc ud true xlife asked xtag opn hD hx he hfit hbr rfl h1 h4 rfl hl
  · subst hrow
    by_cases hq : (i : Int) = shut.node
    case neg =>
      exact holds_off1 w p n f i nodes shut true last kind life round tag of dur ha hb hc hd ua ub uc ud up xlife asked xtag opn hD hx he hfit hbr rfl hq
    by_cases h2 : kind = 2
    · subst h2
      cases hup : up
      · subst hup
        exact holds_dead2a w p n f i nodes shut true last life round tag of dur ha hb hc hd ua ub uc ud false xlife asked xtag opn hD hx he hfit hbr rfl hq rfl
      · subst hup
        by_cases hl : life = xlife
        · exact holds_k2r w p n f i nodes shut true last life round tag of dur ha hb hc hd ua ub uc ud true xlife asked xtag opn hD hx he hfit hbr rfl hq rfl hl
        · exact holds_dead2b w p n f i nodes shut true last life round tag of dur ha hb hc hd ua ub uc ud true xlife asked xtag opn hD hx he hfit hbr rfl hq rfl hl
    · by_cases h4 : kind = 4
      · subst h4
        cases hup : up
        · subst hup
          exact holds_dead4a w p n f i nodes shut true last life round tag of dur ha hb hc hd ua ub uc ud false xlife asked xtag opn hD hx he hfit hbr rfl hq rfl
        · subst hup
          by_cases hl : life = xlife
          · exact holds_k4 w p n f i nodes shut true last life round tag of dur ha hb hc hd ua ub uc ud true xlife asked xtag opn hD hx he hfit hbr rfl hq rfl hl
          · exact holds_dead4b w p n f i nodes shut true last life round tag of dur ha hb hc hd ua ub uc ud true xlife asked xtag opn hD hx he hfit hbr rfl hq rfl hl
      · exact holds_off2 w p n f i nodes shut true last kind life round tag of dur ha hb hc hd ua ub uc ud up xlife asked xtag opn hD hx he hfit hbr rfl hq h2 h4
end Go.Proofs.Yteemkceceaabkaa
