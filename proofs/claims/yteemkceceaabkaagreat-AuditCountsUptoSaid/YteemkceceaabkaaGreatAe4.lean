/- What an event's kind asks, as the auditor's methods ask it (plain). -/
import Derived.Test.YteemkceceaabkaaGreatAx1
import Derived.Test.YteemkceceaabkaaGreatAx2
import Derived.Test.YteemkceceaabkaaGreatAx3
import Derived.Test.YteemkceceaabkaaGreatAx4
import Derived.Test.YteemkceceaabkaaGreatAdz
namespace Go.Proofs.YteemkceceaabkaaGreat
open Go.RowKit Go.Ear
set_option linter.unusedSimpArgs false
set_option linter.unusedVariables false
theorem step_of {n f : Int} {s : Au} {e : Ev} {x : Nd} {i : Nat} {ok : Prop} (hfit : e.fit n) (hi : e.node = i) (hx : s.nodes[i]? = some x) (h1 : s.fits e) (h2 : x.lives e) (hok : ok ↔ e.bare ∧ Au.good n f s x e) :
    (ok → s.step n f e = some ⟨s.nodes.set i (x.next e), decide (e.kind = 3 ∨ e.kind = 4), if e.kind = 3 then e else s.shut, if e.kind = 4 then e.of else -1⟩) ∧ (¬ ok → s.step n f e = none) := by
  constructor
  · intro h
    obtain ⟨hb, hg⟩ := hok.1 h
    exact step_yes hfit hb hi hx h1 h2 hg
  · intro h
    unfold Au.step
    rw [hi, Au.nd_at hx, if_neg]
    rintro ⟨_, hb, _, _, hg⟩
    exact h (hok.2 ⟨hb, hg⟩)
theorem ok_begin (n f : Int) (s : Au) (x : Nd) (e : Ev) (hk : e.kind = 1) : BeginOk x e ↔ e.bare ∧ Au.good n f s x e := by
  obtain ⟨kind, node, life, round, tag, of, dur, heard, union⟩ := e
  simp only at hk
  subst hk
  simp only [BeginOk, Ev.blank, Ev.bare, Au.good, Ev.mk.injEq]
  constructor
  · rintro ⟨⟨_, _, _, _, _, h1, h2, h3, h4⟩, ⟨g1, g2, g3, g4, g5⟩, g6, g7⟩
    simp_all
  · rintro ⟨⟨_, _, h1, h2, h3, h4⟩, h, _⟩
    have h := h trivial
    simp_all
theorem ok_defend (n f : Int) (s : Au) (x : Nd) (e : Ev) (hk : e.kind = 5) : DefendOk x e ↔ e.bare ∧ Au.good n f s x e := by
  obtain ⟨kind, node, life, round, tag, of, dur, heard, union⟩ := e
  simp only at hk
  subst hk
  simp only [DefendOk, Ev.blank, Ev.bare, Au.good, Ev.mk.injEq]
  constructor
  · rintro ⟨⟨_, _, _, h0, _, h1, h2, h3, h4⟩, g1, g2, g3⟩
    simp_all
  · rintro ⟨⟨h0, _, h1, h2, h3, h4⟩, _, _, _, _, h⟩
    have h := h trivial
    simp_all
theorem ok_down (n f : Int) (s : Au) (x : Nd) (e : Ev) (hk : e.kind = 6) : DownOk e ↔ e.bare ∧ Au.good n f s x e := by
  obtain ⟨kind, node, life, round, tag, of, dur, heard, union⟩ := e
  simp only at hk
  subst hk
  simp only [DownOk, Ev.blank, Ev.bare, Au.good, Ev.mk.injEq]
  constructor
  · rintro ⟨⟨_, _, _, h0, h00, h1, h2, h3, h4⟩, _⟩
    simp_all
  · rintro ⟨⟨h0, h00, h1, h2, h3, h4⟩, _⟩
    simp_all
theorem ok_ask (n f : Int) (s : Au) (x : Nd) (e : Ev) (hk : e.kind = 2) : AskOk s.row s.shut.round x e ↔ e.bare ∧ Au.good n f s x e := by
  obtain ⟨kind, node, life, round, tag, of, dur, heard, union⟩ := e
  simp only at hk
  subst hk
  simp only [AskOk, Ev.blank, Ev.bare, Au.good, Ev.mk.injEq]
  constructor
  · rintro ⟨⟨_, _, _, _, h00, h1, h2, h3, h4⟩, g1, g2⟩
    simp_all
  · rintro ⟨⟨_, h00, h1, h2, h3, h4⟩, _, h, _⟩
    have h := h trivial
    simp_all
theorem ok_close (n f : Nat) (s : Au) (x : Nd) (e : Ev) (hk : e.kind = 3) : CloseOk n f x e ↔ e.bare ∧ Au.good n f s x e := by
  obtain ⟨kind, node, life, round, tag, of, dur, heard, union⟩ := e
  simp only at hk
  subst hk
  simp only [CloseOk, Ev.blank, Ev.bare, Au.good, Ev.mk.injEq]
  constructor
  · rintro ⟨⟨_, _, _, _, h00, h1, h2, h3, h4⟩, g1, ⟨g2, g3, g4⟩, g5, g6⟩
    simp_all
  · rintro ⟨⟨_, h00, h1, h2, h3, h4⟩, _, _, h, _⟩
    have h := h trivial
    simp_all
theorem ok_doubt (n : Nat) (f : Int) (s : Au) (x : Nd) (e : Ev) (hk : e.kind = 4) : DoubtOk n s e ↔ e.bare ∧ Au.good n f s x e := by
  obtain ⟨kind, node, life, round, tag, of, dur, heard, union⟩ := e
  simp only at hk
  subst hk
  simp only [DoubtOk, Ev.blank, Ev.bare, Au.good, Ev.mk.injEq]
  constructor
  · rintro ⟨⟨_, _, _, _, h00, h1, h2, h3, h4⟩, ⟨g2, g3, g4, g44⟩, g5, g6, g7⟩
    simp_all
  · rintro ⟨⟨_, h00, h1, h2, h3, h4⟩, _, _, _, h, _⟩
    have h := h trivial
    simp_all
end Go.Proofs.YteemkceceaabkaaGreat
