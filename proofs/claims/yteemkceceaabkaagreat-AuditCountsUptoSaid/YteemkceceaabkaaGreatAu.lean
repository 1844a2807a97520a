/- Histories: what an event does to what is known, and what Check says (plain: no program). -/
import Derived.Test.YteemkceceaabkaaGreatSx
namespace Go.Ear
open Go.RowKit

/-- An event. -/
structure Ev where
  kind : Int
  node : Int
  life : Int
  round : Int
  tag : Int
  of : Int
  dur : Int
  heard : St
  union : St
deriving DecidableEq
instance : Inhabited St := ⟨⟨0, 0, 0, 0⟩⟩
instance : Inhabited Ev := ⟨⟨0, 0, 0, 0, 0, 0, 0, ⟨0, 0, 0, 0⟩, ⟨0, 0, 0, 0⟩⟩⟩
abbrev iv (n : Int) : Value := .int .i64 n
abbrev Ev.cells (e : Ev) : List Value := [iv e.kind, iv e.node, iv e.life, iv e.round, iv e.tag, iv e.of, iv e.dur, u32v e.heard.a, u32v e.heard.b, u32v e.heard.c, u32v e.heard.d, u32v e.union.a, u32v e.union.b, u32v e.union.c, u32v e.union.d]
abbrev Ev.v (e : Ev) : Value := .agg #[iv e.kind, iv e.node, iv e.life, iv e.round, iv e.tag, iv e.of, iv e.dur, u32v e.heard.a, u32v e.heard.b, u32v e.heard.c, u32v e.heard.d, u32v e.union.a, u32v e.union.b, u32v e.union.c, u32v e.union.d]
def Ev.ok (e : Ev) : Prop := e.heard.ok ∧ e.union.ok
abbrev St.zero : St := ⟨0, 0, 0, 0⟩
abbrev Ev.zero : Ev := ⟨0, 0, 0, 0, 0, 0, 0, .zero, .zero⟩
theorem Ev.zero_ok : Ev.zero.ok := ⟨St.zero_ok, St.zero_ok⟩

/-- What is known of a node. -/
structure Nd where
  up : Bool
  life : Int
  asked : Int
  tag : Int
  opn : Int
deriving Inhabited
/-- What is known of a history. -/
structure Au where
  nodes : List Nd
  row : Bool
  shut : Ev
  last : Int
/-- Are the fields zero that the event's kind does not have? -/
def Ev.bare (e : Ev) : Prop :=
  (e.kind ≠ 1 → e.kind ≠ 2 → e.kind ≠ 3 → e.kind ≠ 4 → e.round = 0) ∧ (e.kind ≠ 1 → e.kind ≠ 4 → e.kind ≠ 5 → e.tag = 0) ∧ (e.kind ≠ 4 → e.of = 0) ∧ (e.kind ≠ 5 → e.dur = 0) ∧
  (e.kind ≠ 3 → e.heard = .zero) ∧ (e.kind ≠ 3 → e.union = .zero)
instance (e : Ev) : Decidable e.bare := by unfold Ev.bare; infer_instance
/-- May the event be at all? -/
def Ev.fit (n : Int) (e : Ev) : Prop := 1 ≤ e.kind ∧ e.kind ≤ 6 ∧ 0 ≤ e.node ∧ e.node < n ∧ 1 ≤ e.life ∧ e.life ≤ 1073741824
instance (n : Int) (e : Ev) : Decidable (e.fit n) := by unfold Ev.fit; infer_instance
/-- Does it stand at its place in a row? -/
def Au.fits (s : Au) (e : Ev) : Prop := (s.row = true → (e.kind = 4 ∨ e.kind = 2) ∧ e.node = s.shut.node) ∧ (s.row = true ∨ e.kind ≠ 4)
instance (s : Au) (e : Ev) : Decidable (s.fits e) := by unfold Au.fits; infer_instance
def Nd.lives (x : Nd) (e : Ev) : Prop := e.kind = 1 ∨ x.up = true ∧ e.life = x.life
instance (x : Nd) (e : Ev) : Decidable (x.lives e) := by unfold Nd.lives; infer_instance
/-- What its kind asks. -/
def Au.good (n f : Int) (s : Au) (x : Nd) (e : Ev) : Prop :=
  (e.kind = 1 → x.up = false ∧ x.life < e.life ∧ 1 ≤ e.round ∧ e.round ≤ 1099511627775 ∧ x.asked < e.round ∧ x.tag ≤ e.tag ∧ e.tag ≤ 1048576) ∧
  (e.kind = 2 → (s.row = true → s.shut.round < e.round ∧ e.round ≤ 1099511627775) ∧ (s.row = false → e.round = x.opn)) ∧
  (e.kind = 3 → e.round = x.opn ∧ e.heard.within n = true ∧ (e.heard.ids.length : Int) = n - f ∧ e.heard.has e.node = true ∧ e.union.within n = true ∧ St.sub e.heard e.union = true) ∧
  (e.kind = 4 → 0 ≤ e.of ∧ e.of < n ∧ s.shut.union.has e.of = false ∧ s.last < e.of ∧ 0 ≤ e.tag ∧ e.tag ≤ 1048576 ∧ e.round = s.shut.round) ∧
  (e.kind = 5 → x.tag < e.tag ∧ e.tag ≤ e.dur ∧ e.dur ≤ 1048576)
instance (n f : Int) (s : Au) (x : Nd) (e : Ev) : Decidable (Au.good n f s x e) := by unfold Au.good; infer_instance
/-- What the node is behind it. -/
def Nd.next (x : Nd) (e : Ev) : Nd :=
  if e.kind = 1 then ⟨true, e.life, x.asked, e.tag, e.round⟩
  else if e.kind = 2 then ⟨x.up, x.life, max x.asked e.round, x.tag, e.round⟩
  else if e.kind = 5 then ⟨x.up, x.life, x.asked, e.tag, x.opn⟩
  else if e.kind = 6 then ⟨false, x.life, x.asked, x.tag, x.opn⟩
  else x
def Au.nd (s : Au) (i : Int) : Nd := s.nodes.getD i.toNat default
/-- What is known behind an event; none: it could not have happened. -/
def Au.step (n f : Int) (s : Au) (e : Ev) : Option Au :=
  if e.fit n ∧ e.bare ∧ s.fits e ∧ (s.nd e.node).lives e ∧ Au.good n f s (s.nd e.node) e then
    some ⟨s.nodes.set e.node.toNat ((s.nd e.node).next e), decide (e.kind = 3 ∨ e.kind = 4), if e.kind = 3 then e else s.shut, if e.kind = 4 then e.of else -1⟩
  else none
/-- What Check says of the events from number i on. -/
def Au.check (n f : Int) : Au → List Ev → Int → Int × Int
  | s, [], i => if s.row = true then (i, 220) else (0, 0)
  | s, e :: l, i => match s.step n f e with
    | none => (i, 220)
    | some s' => Au.check n f s' l (i + 1)
def Au.start (n : Int) : Au := ⟨List.replicate n.toNat ⟨false, 0, 0, 0, 0⟩, false, .zero, -1⟩
def auCheck (n f : Int) (l : List Ev) : Int × Int := if n < 1 ∨ 100 < n ∨ f < 0 ∨ n ≤ f then (0, 1) else Au.check n f (Au.start n) l 0
end Go.Ear
