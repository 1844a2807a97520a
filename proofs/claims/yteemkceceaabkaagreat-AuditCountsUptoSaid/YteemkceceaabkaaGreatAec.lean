/- The auditor's event, whatever the event; offends. -/
import Derived.Test.YteemkceceaabkaaGreatAe1
import Derived.Test.YteemkceceaabkaaGreatAe2
import Derived.Test.YteemkceceaabkaaGreatAe3
import Derived.Test.YteemkceceaabkaaGreatAex
import Derived.Test.YteemkceceaabkaaGreatAey
import Derived.Recover
import Derived.Defers
namespace Go.Proofs.YteemkceceaabkaaGreat
open Go.RowKit Go.Ear
set_option maxHeartbeats 4000000
set_option maxRecDepth 100000
set_option linter.unusedSimpArgs false
set_option linter.unusedVariables false
theorem event_any (w : World) (p q n f : Nat) (s : Au) (e : Ev) (hA : AuIs w p q n f s) (he : e.ok) :
    Calls Tryz.prog 134 #[.pointer (some ⟨p, 0, none⟩), e.v] w (Went w p q n f (s.step n f e)) := by
  by_cases hfit : e.fit n
  case neg => exact event_unfit w p q n f s e hA hfit
  obtain ⟨i, hi⟩ : ∃ i : Nat, e.node = i := ⟨e.node.toNat, by have := hfit.2.2.1; omega⟩
  have hil : i < s.nodes.length := by
    have := hfit.2.2.2.1
    have := hA.len
    omega
  obtain ⟨x, hx⟩ : ∃ x, s.nodes[i]? = some x := ⟨_, List.getElem?_eq_getElem hil⟩
  obtain ⟨kind, node, life, round, tag, of, dur, ⟨ha, hb, hc, hd⟩, ⟨ua, ub, uc, ud⟩⟩ := e
  obtain ⟨nodes, row, shut, last⟩ := s
  obtain ⟨up, xlife, asked, xtag, opn⟩ := x
  simp only at hi hx
  subst hi
  have hk1 := hfit.1
  have hk6 := hfit.2.1
  simp only at hk1 hk6
  cases row
  · by_cases h4 : kind = 4
    · subst h4
      exact event_off3 w p q n f i nodes shut last life round tag of dur ha hb hc hd ua ub uc ud up xlife asked xtag opn hA hx he hfit
    · by_cases h1 : kind = 1
      · subst h1
        exact event_k1 w p q n f i nodes shut last life round tag of dur ha hb hc hd ua ub uc ud up xlife asked xtag opn hA hx he hfit
      · cases up
        · exact event_deadkinda w p q n f i nodes shut last kind life round tag of dur ha hb hc hd ua ub uc ud xlife asked xtag opn hA hx he hfit h1 h4
        · by_cases hl : life = xlife
          · subst hl
            rcases (show kind = 2 ∨ kind = 3 ∨ kind = 5 ∨ kind = 6 by omega) with rfl | rfl | rfl | rfl
            · exact event_k2 w p q n f i nodes shut last life round tag of dur ha hb hc hd ua ub uc ud life asked xtag opn hA hx he hfit
            · exact event_k3 w p q n f i nodes shut last life round tag of dur ha hb hc hd ua ub uc ud life asked xtag opn hA hx he hfit
            · exact event_k5 w p q n f i nodes shut last life round tag of dur ha hb hc hd ua ub uc ud life asked xtag opn hA hx he hfit
            · exact event_k6 w p q n f i nodes shut last life round tag of dur ha hb hc hd ua ub uc ud life asked xtag opn hA hx he hfit
          · exact event_deadkindb w p q n f i nodes shut last kind life round tag of dur ha hb hc hd ua ub uc ud xlife asked xtag opn hA hx he hfit h1 h4 hl
  · by_cases h2 : kind = 2
    · subst h2
      by_cases hq : (i : Int) = shut.node
      · cases up
        · exact event_dead2a w p q n f i nodes shut last life round tag of dur ha hb hc hd ua ub uc ud xlife asked xtag opn hA hx he hfit hq
        · by_cases hl : life = xlife
          · subst hl
            exact event_k2r w p q n f i nodes shut last life round tag of dur ha hb hc hd ua ub uc ud life asked xtag opn hA hx he hfit hq
          · exact event_dead2b w p q n f i nodes shut last life round tag of dur ha hb hc hd ua ub uc ud xlife asked xtag opn hA hx he hfit hq hl
      · exact event_off2_2 w p q n f i nodes shut last life round tag of dur ha hb hc hd ua ub uc ud up xlife asked xtag opn hA hx he hfit hq
    · by_cases h4 : kind = 4
      · subst h4
        by_cases hq : (i : Int) = shut.node
        · cases up
          · exact event_dead4a w p q n f i nodes shut last life round tag of dur ha hb hc hd ua ub uc ud xlife asked xtag opn hA hx he hfit hq
          · by_cases hl : life = xlife
            · subst hl
              exact event_k4 w p q n f i nodes shut last life round tag of dur ha hb hc hd ua ub uc ud life asked xtag opn hA hx he hfit hq
            · exact event_dead4b w p q n f i nodes shut last life round tag of dur ha hb hc hd ua ub uc ud xlife asked xtag opn hA hx he hfit hq hl
        · exact event_off2_4 w p q n f i nodes shut last life round tag of dur ha hb hc hd ua ub uc ud up xlife asked xtag opn hA hx he hfit hq
      · exact event_off1 w p q n f i nodes shut last kind life round tag of dur ha hb hc hd ua ub uc ud up xlife asked xtag opn hA hx he hfit h2 h4
end Go.Proofs.YteemkceceaabkaaGreat
