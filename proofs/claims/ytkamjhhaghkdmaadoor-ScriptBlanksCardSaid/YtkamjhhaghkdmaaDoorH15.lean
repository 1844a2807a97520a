/- Words for worlds: what may have changed between two of them, told by footprints; rules that read old cells through it; a region that draws its order, in the class of the worlds that have grown out of one. -/
import Derived.WalkKit
import Derived.WalkSpells
import Derived.WalkLawsBesides
import Derived.Deep.QuietTactic
import Derived.BigQuiet
import Derived.Lib.Hide
import Derived.Deep.AppendLies
import Derived.Laws.AppendOwnNone
import Derived.Deep.Light
namespace Go.Ear
open Go.RowKit

/-- Of what lay in a nothing has changed in b but blocks of F. -/
structure Chg (F : Nat → Prop) (a b : World) : Prop where
  os : b.os = a.os
  tape : b.tape = a.tape
  output : b.output = a.output
  size : a.heap.size ≤ b.heap.size
  block : ∀ k, k < a.heap.size → ¬ F k → b.heap[k]? = a.heap[k]?

/-- No block at all. -/
abbrev Noth : Nat → Prop := fun _ => False

section
variable {F G : Nat → Prop} {a b c : World}
theorem Chg.refl (F : Nat → Prop) (a : World) : Chg F a a := ⟨rfl, rfl, rfl, Nat.le_refl _, fun _ _ _ => rfl⟩
/-- The second change may be of blocks that the first world has not. -/
theorem Chg.trans (h : Chg F a b) (k : Chg G b c) (hG : ∀ i, i < a.heap.size → G i → F i) : Chg F a c :=
  ⟨k.os.trans h.os, k.tape.trans h.tape, k.output.trans h.output, Nat.le_trans h.size k.size,
    fun i hi hF => (k.block i (Nat.lt_of_lt_of_le hi h.size) (fun hg => hF (hG i hi hg))).trans (h.block i hi hF)⟩
theorem Chg.mono (h : Chg F a b) (hF : ∀ i, i < a.heap.size → F i → G i) : Chg G a b := ⟨h.os, h.tape, h.output, h.size, fun i hi hg => h.block i hi (fun hf => hg (hF i hi hf))⟩
theorem Chg.of_below (h : Below a.heap.size a b) : Chg F a b := ⟨h.os, h.tape, h.output, h.size, fun i hi _ => h.block i hi⟩
theorem Chg.below (h : Chg Noth a b) : Below a.heap.size a b := ⟨h.os, h.tape, h.output, h.size, fun i hi => h.block i hi (fun e => e)⟩
theorem Chg.cell (h : Chg F a b) {p : Addr} (hp : p.block < a.heap.size) (hF : ¬ F p.block) : b.cell? p = a.cell? p := World.cell?_of_block (w := a) (h.block _ hp hF)
theorem Chg.frozen (h : Chg F a b) {p : Addr} (hp : p.block < a.heap.size) (hF : ¬ F p.block) : b.frozen? p = a.frozen? p := World.frozen?_of_block (w := a) (h.block _ hp hF)
theorem Chg.of_grown {row : Option Nat} (h : a.grownBy b row) : Chg (fun k => row = some k) a b := ⟨h.os, h.tape, h.output, h.size, fun i hi hr => h.block i hi (fun e => hr e.symm)⟩
end

/-- A world in which, of what lay in W, only blocks of F have changed. -/
structure Muts (F : Nat → Prop) (W : World) where
  w : World
  h : Chg F W w
abbrev Grows (W : World) := Muts Noth W
instance (F : Nat → Prop) (W : World) : Nonempty (Muts F W) := ⟨⟨W, Chg.refl _ _⟩⟩

/-- How many blocks W has, in the walk's own spelling: found by instances. -/
class HS (W : World) (n : outParam Nat) : Prop where
  eq : W.heap.size = n
instance (priority := low) (W : World) : HS W W.heap.size := ⟨rfl⟩
instance (W : World) (o : Obj) (n : Nat) [h : HS W n] : HS (W.alloc o) (n + 1) := ⟨by simp [h.eq]⟩
instance (W : World) (p : Addr) (v : Value) (n : Nat) [h : HS W n] : HS (W.setCell p v) n := ⟨by simpa [World.setCell] using h.eq⟩
instance (W : World) (n : Nat) [h : HS W n] : HS W.drew n := ⟨h.eq⟩
instance (W : World) (k n : Nat) [h : HS W n] : HS (W.drewN k) n := ⟨h.eq⟩

/-- Block number b lies in W: found by instances, however the world W was made. -/
class Old (b : Nat) (W : World) : Prop where
  lt : b < W.heap.size
/-- w has no more blocks than W. -/
class WLe (w W : World) : Prop where
  le : w.heap.size ≤ W.heap.size
/-- Block number b is none of w's: it was made later. -/
class Ge (b : Nat) (w : World) : Prop where
  ge : w.heap.size ≤ b
/-- Block number b is none of F. -/
class Out (b : Nat) (F : Nat → Prop) : Prop where
  out : ¬ F b
/-- F has blocks of w alone. -/
class Foot (F : Nat → Prop) (w : outParam World) : Prop where
  lt : ∀ k, F k → k < w.heap.size

section
variable {W w : World} {F : Nat → Prop}
instance (b : Nat) (g : Muts F W) [h : Old b W] : Old b g.w := ⟨Nat.lt_of_lt_of_le h.lt g.h.size⟩
instance (b : Nat) (o : Obj) [h : Old b W] : Old b (W.alloc o) := ⟨by have := h.lt; simp; omega⟩
instance (b : Nat) (o : Obj) [h : HS W b] : Old b (W.alloc o) := ⟨by simp [h.eq]⟩
instance (b : Nat) [h : Old b W] : Old b W.drew := ⟨h.lt⟩
instance (b n : Nat) [h : Old b W] : Old b (W.drewN n) := ⟨h.lt⟩
instance (b : Nat) (p : Addr) (v : Value) [h : Old b W] : Old b (W.setCell p v) := ⟨by simpa [World.setCell] using h.lt⟩

instance (w : World) : WLe w w := ⟨Nat.le_refl _⟩
instance (g : Muts F W) [h : WLe w W] : WLe w g.w := ⟨Nat.le_trans h.le g.h.size⟩
instance (o : Obj) [h : WLe w W] : WLe w (W.alloc o) := ⟨by have := h.le; simp; omega⟩
instance [h : WLe w W] : WLe w W.drew := ⟨h.le⟩
instance (n : Nat) [h : WLe w W] : WLe w (W.drewN n) := ⟨h.le⟩
instance (p : Addr) (v : Value) [h : WLe w W] : WLe w (W.setCell p v) := ⟨by simpa [World.setCell] using h.le⟩
instance (w W : World) [h : WLe w W] : Ge W.heap.size w := ⟨h.le⟩
instance (b : Nat) (w : World) [h : Ge b w] : Ge (b + 1) w := ⟨by have := h.ge; omega⟩
instance (b : Nat) : Out b Noth := ⟨fun e => e⟩
instance (priority := low) (b : Nat) (F : Nat → Prop) (w : World) [h : Foot F w] [k : Ge b w] : Out b F := ⟨fun e => by have := h.lt b e; have := k.ge; omega⟩

@[go_sem] theorem old_lt (b : Nat) [h : Old b W] : (b < W.heap.size) = True := eq_true h.lt
@[go_sem] theorem old_le (b : Nat) [h : Old b W] : (b ≤ W.heap.size) = True := eq_true (Nat.le_of_lt h.lt)
@[go_sem] theorem old_ne (b : Nat) [h : Old b W] : (b = W.heap.size) = False := eq_false (Nat.ne_of_lt h.lt)
@[go_sem] theorem old_ne' (b : Nat) [h : Old b W] : (W.heap.size = b) = False := eq_false (Nat.ne_of_gt h.lt)
@[go_sem] theorem wle_le [h : WLe w W] : (w.heap.size ≤ W.heap.size) = True := eq_true h.le
@[go_sem] theorem old_lt1 (b : Nat) [h : Old b W] : (b < W.heap.size + 1) = True := eq_true (by have := h.lt; omega)
@[go_sem] theorem old_le1 (b : Nat) [h : Old b W] : (b ≤ W.heap.size + 1) = True := eq_true (by have := h.lt; omega)
@[go_sem] theorem old_ne1 (b : Nat) [h : Old b W] : (b = W.heap.size + 1) = False := eq_false (by have := h.lt; omega)
@[go_sem] theorem old_ne1' (b : Nat) [h : Old b W] : (W.heap.size + 1 = b) = False := eq_false (by have := h.lt; omega)
@[go_sem] theorem old_lt2 (b : Nat) [h : Old b W] : (b < W.heap.size + 1 + 1) = True := eq_true (by have := h.lt; omega)
@[go_sem] theorem old_le2 (b : Nat) [h : Old b W] : (b ≤ W.heap.size + 1 + 1) = True := eq_true (by have := h.lt; omega)
@[go_sem] theorem old_ne2 (b : Nat) [h : Old b W] : (b = W.heap.size + 1 + 1) = False := eq_false (by have := h.lt; omega)
@[go_sem] theorem old_ne2' (b : Nat) [h : Old b W] : (W.heap.size + 1 + 1 = b) = False := eq_false (by have := h.lt; omega)
@[go_sem] theorem old_lt3 (b : Nat) [h : Old b W] : (b < W.heap.size + 1 + 1 + 1) = True := eq_true (by have := h.lt; omega)
@[go_sem] theorem old_le3 (b : Nat) [h : Old b W] : (b ≤ W.heap.size + 1 + 1 + 1) = True := eq_true (by have := h.lt; omega)
@[go_sem] theorem old_ne3 (b : Nat) [h : Old b W] : (b = W.heap.size + 1 + 1 + 1) = False := eq_false (by have := h.lt; omega)
@[go_sem] theorem old_ne3' (b : Nat) [h : Old b W] : (W.heap.size + 1 + 1 + 1 = b) = False := eq_false (by have := h.lt; omega)
@[go_sem] theorem old_lt4 (b : Nat) [h : Old b W] : (b < W.heap.size + 1 + 1 + 1 + 1) = True := eq_true (by have := h.lt; omega)
@[go_sem] theorem old_le4 (b : Nat) [h : Old b W] : (b ≤ W.heap.size + 1 + 1 + 1 + 1) = True := eq_true (by have := h.lt; omega)
@[go_sem] theorem old_ne4 (b : Nat) [h : Old b W] : (b = W.heap.size + 1 + 1 + 1 + 1) = False := eq_false (by have := h.lt; omega)
@[go_sem] theorem old_ne4' (b : Nat) [h : Old b W] : (W.heap.size + 1 + 1 + 1 + 1 = b) = False := eq_false (by have := h.lt; omega)
@[go_sem] theorem old_lt5 (b : Nat) [h : Old b W] : (b < W.heap.size + 1 + 1 + 1 + 1 + 1) = True := eq_true (by have := h.lt; omega)
@[go_sem] theorem old_le5 (b : Nat) [h : Old b W] : (b ≤ W.heap.size + 1 + 1 + 1 + 1 + 1) = True := eq_true (by have := h.lt; omega)
@[go_sem] theorem old_ne5 (b : Nat) [h : Old b W] : (b = W.heap.size + 1 + 1 + 1 + 1 + 1) = False := eq_false (by have := h.lt; omega)
@[go_sem] theorem old_ne5' (b : Nat) [h : Old b W] : (W.heap.size + 1 + 1 + 1 + 1 + 1 = b) = False := eq_false (by have := h.lt; omega)
@[go_sem] theorem old_lt6 (b : Nat) [h : Old b W] : (b < W.heap.size + 1 + 1 + 1 + 1 + 1 + 1) = True := eq_true (by have := h.lt; omega)
@[go_sem] theorem old_le6 (b : Nat) [h : Old b W] : (b ≤ W.heap.size + 1 + 1 + 1 + 1 + 1 + 1) = True := eq_true (by have := h.lt; omega)
@[go_sem] theorem old_ne6 (b : Nat) [h : Old b W] : (b = W.heap.size + 1 + 1 + 1 + 1 + 1 + 1) = False := eq_false (by have := h.lt; omega)
@[go_sem] theorem old_ne6' (b : Nat) [h : Old b W] : (W.heap.size + 1 + 1 + 1 + 1 + 1 + 1 = b) = False := eq_false (by have := h.lt; omega)
@[go_sem] theorem old_lt7 (b : Nat) [h : Old b W] : (b < W.heap.size + 1 + 1 + 1 + 1 + 1 + 1 + 1) = True := eq_true (by have := h.lt; omega)
@[go_sem] theorem old_le7 (b : Nat) [h : Old b W] : (b ≤ W.heap.size + 1 + 1 + 1 + 1 + 1 + 1 + 1) = True := eq_true (by have := h.lt; omega)
@[go_sem] theorem old_ne7 (b : Nat) [h : Old b W] : (b = W.heap.size + 1 + 1 + 1 + 1 + 1 + 1 + 1) = False := eq_false (by have := h.lt; omega)
@[go_sem] theorem old_ne7' (b : Nat) [h : Old b W] : (W.heap.size + 1 + 1 + 1 + 1 + 1 + 1 + 1 = b) = False := eq_false (by have := h.lt; omega)
@[go_sem] theorem old_lt8 (b : Nat) [h : Old b W] : (b < W.heap.size + 1 + 1 + 1 + 1 + 1 + 1 + 1 + 1) = True := eq_true (by have := h.lt; omega)
@[go_sem] theorem old_le8 (b : Nat) [h : Old b W] : (b ≤ W.heap.size + 1 + 1 + 1 + 1 + 1 + 1 + 1 + 1) = True := eq_true (by have := h.lt; omega)
@[go_sem] theorem old_ne8 (b : Nat) [h : Old b W] : (b = W.heap.size + 1 + 1 + 1 + 1 + 1 + 1 + 1 + 1) = False := eq_false (by have := h.lt; omega)
@[go_sem] theorem old_ne8' (b : Nat) [h : Old b W] : (W.heap.size + 1 + 1 + 1 + 1 + 1 + 1 + 1 + 1 = b) = False := eq_false (by have := h.lt; omega)
@[go_sem] theorem Muts.cell_eq (g : Muts F W) (b o : Nat) [h : Old b W] [k : Out b F] : g.w.cell? ⟨b, o, none⟩ = W.cell? ⟨b, o, none⟩ := g.h.cell (p := ⟨b, o, none⟩) h.lt k.out
@[go_sem] theorem Muts.frozen_eq (g : Muts F W) (b o : Nat) [h : Old b W] [k : Out b F] : g.w.frozen? ⟨b, o, none⟩ = W.frozen? ⟨b, o, none⟩ := g.h.frozen (p := ⟨b, o, none⟩) h.lt k.out
@[go_sem] theorem old_cell_alloc (ob : Obj) (b o : Nat) [h : Old b W] : (W.alloc ob).cell? ⟨b, o, none⟩ = W.cell? ⟨b, o, none⟩ := World.cell?_alloc_lt W ob ⟨b, o, none⟩ h.lt
@[go_sem] theorem old_frozen_alloc (ob : Obj) (b o : Nat) [h : Old b W] : (W.alloc ob).frozen? ⟨b, o, none⟩ = W.frozen? ⟨b, o, none⟩ := World.frozen?_alloc_old W ob ⟨b, o, none⟩ (Nat.ne_of_lt h.lt)
/-- Place o lies in the list. -/
class InL (o : Nat) (l : List Value) : Prop where
  lt : o < l.length
instance (x : Value) (l : List Value) : InL 0 (x :: l) := ⟨by simp⟩
instance (o : Nat) (x : Value) (l : List Value) [h : InL o l] : InL (o + 1) (x :: l) := ⟨by have := h.lt; simp; omega⟩
/-- There is a cell at place o of block b. -/
class HasCell (W : World) (b o : Nat) : Prop where
  some : (W.cell? ⟨b, o, none⟩).isSome = true
instance (g : Muts F W) (b o : Nat) [h : Old b W] [k : Out b F] [c : HasCell W b o] : HasCell g.w b o := ⟨by rw [g.h.cell (p := ⟨b, o, none⟩) h.lt k.out]; exact c.some⟩
instance (b o : Nat) (ob : Obj) [h : Old b W] [c : HasCell W b o] : HasCell (W.alloc ob) b o := ⟨by rw [World.cell?_alloc_lt W ob ⟨b, o, none⟩ h.lt]; exact c.some⟩
instance (b o : Nat) (l : List Value) (t : TypeId) [h : HS W b] [c : InL o l] : HasCell (W.alloc (.cells l.toArray t)) b o := ⟨by
  have e := heap_alloc_new W (.cells l.toArray t)
  rw [h.eq] at e
  rw [cell_of_row _ b o _ _ _ e]
  have := c.lt
  simp [this]⟩
instance (b o : Nat) [c : HasCell W b o] : HasCell W.drew b o := ⟨c.some⟩
instance (b o n : Nat) [c : HasCell W b o] : HasCell (W.drewN n) b o := ⟨c.some⟩
instance (b o : Nat) (p : Addr) (v : Value) [c : HasCell W b o] : HasCell (W.setCell p v) b o := ⟨by
  by_cases e : p = ⟨b, o, none⟩
  · subst e
    obtain ⟨u, hu⟩ := Option.isSome_iff_exists.1 c.some
    rw [World.cell?_setCell_same _ _ _ hu]; rfl
  · rw [World.cell?_setCell_other W p ⟨b, o, none⟩ v e]; exact c.some⟩
@[go_sem] theorem cell_set_same (X : World) (b o : Nat) (v : Value) [h : HasCell X b o] : (X.setCell ⟨b, o, none⟩ v).cell? ⟨b, o, none⟩ = some v := by
  obtain ⟨u, hu⟩ := Option.isSome_iff_exists.1 h.some
  exact World.cell?_setCell_same _ _ _ hu
theorem Muts.heap_eq (g : Muts F W) (b : Nat) [h : Old b W] [k : Out b F] : g.w.heap[b]? = W.heap[b]? := g.h.block b h.lt k.out
theorem heap_alloc_eq (ob : Obj) (b : Nat) [h : Old b W] : (W.alloc ob).heap[b]? = W.heap[b]? := Below.heap_alloc W ob b h.lt
theorem heap_set_far (c o b : Nat) (v : Value) (h : ¬ b = c) : (W.setCell ⟨c, o, none⟩ v).heap[b]? = W.heap[b]? := Below.heap_setCell W _ v b h
theorem heap_drewN_eq (n b : Nat) : (W.drewN n).heap[b]? = W.heap[b]? := rfl
theorem heap_drew_eq (b : Nat) : W.drew.heap[b]? = W.heap[b]? := rfl
/-- What has grown out of a changed world has changed likewise. -/
def Muts.join (g : Muts F W) (g2 : Grows g.w) : Muts F W := ⟨g2.w, g.h.trans g2.h (fun _ _ e => e.elim)⟩
@[go_sem] theorem Muts.w_join (g : Muts F W) (g2 : Grows g.w) : g2.w = (g.join g2).w := rfl
end

/-! ### Changes, step by step: 'repeat (with_reducible first | exact Chg.refl _ _ | refine chg_g ?_ _ | ..)' -/
/-- Block k may be written in a step from a on: it is F's, or new. -/
class May (k : Nat) (F : Nat → Prop) (a : World) : Prop where
  may : F k ∨ a.heap.size ≤ k
instance (k : Nat) (F : Nat → Prop) (a : World) [h : Ge k a] : May k F a := ⟨.inr h.ge⟩
section
variable {F : Nat → Prop} {a b : World}
theorem chg_alloc (h : Chg F a b) (o : Obj) : Chg F a (b.alloc o) :=
  h.trans (G := Noth) ⟨rfl, rfl, rfl, by simp, fun k hk _ => Below.heap_alloc b o k hk⟩ (fun _ _ e => e.elim)
theorem chg_drew (h : Chg F a b) : Chg F a b.drew := ⟨h.os, h.tape, h.output, h.size, h.block⟩
theorem chg_drewN (h : Chg F a b) (n : Nat) : Chg F a (b.drewN n) := ⟨h.os, h.tape, h.output, h.size, h.block⟩
theorem chg_set (h : Chg F a b) (c o : Nat) [m : May c F a] (u : Value) : Chg F a (b.setCell ⟨c, o, none⟩ u) :=
  h.trans (G := fun k => k = c) ⟨rfl, rfl, rfl, by simp [World.setCell], fun k _ hne => Below.heap_setCell b _ u k hne⟩ (fun i hi e => by
    subst e
    rcases m.may with m | m
    · exact m
    · omega)
theorem chg_g (h : Chg F a b) (g : Grows b) : Chg F a g.w := h.trans g.h (fun _ _ e => e.elim)
theorem chg_m (h : Chg F a b) (g : Muts F b) : Chg F a g.w := h.trans g.h (fun _ _ e => e)
end

/-- What a contract says of a function that answers one value and writes nothing that was there. -/
def Gr (v : Value) (w : World) : Ending → World → Prop := fun e w' => e = .returned v ∧ ∃ g : Grows w, w' = g.w
theorem muts_ex {F : Nat → Prop} {w w' : World} (h : Chg F w w') : ∃ g : Muts F w, w' = g.w := ⟨⟨w', h⟩, rfl⟩
theorem gr_mk {e : Ending} {v : Value} {w w' : World} (he : e = .returned v) (h : Chg Noth w w') : Gr v w e w' := ⟨he, muts_ex h⟩
theorem gr_same {e : Ending} {v : Value} {w : World} (he : e = .returned v) : Gr v w e w := gr_mk he (Chg.refl _ _)

theorem wp_region_grows {P : Program} {id : Nat} {Q : Exit → Act → World → Prop} {a : Act} {W : World} {l : List Oper} (hm : P.follows .mixedOrders = true) (hB : Region.lexB .any l.toArray = true)
    (h : wpQuiet P l.toArray (fun w' => ∃ g : Grows W, w' = g.w) (fun a' => ∀ w', (∃ g : Grows W, w' = g.w) → Q .normal a' w') l a) : (Code.region id l.toArray true).wp P Q a W :=
  wp_region_quiet (C := fun w' => ∃ g : Grows W, w' = g.w) hm hB ⟨⟨W.drew, chg_drew (Chg.refl _ _)⟩, rfl⟩ (by simpa using h)

theorem grows_of {P : Program} {f : FuncId} {args : Array Value} {W : World} {g : Grows W} {v : Value}
    (h : Calls P f args g.w (Gr v g.w)) : Calls P f args g.w fun e w'' => e = .returned v ∧ ∃ g' : Grows W, w'' = g'.w :=
  h.mono fun _ _ ⟨he, g', hg⟩ => ⟨he, ⟨g'.w, chg_g g.h g'⟩, hg⟩
end Go.Ear
