/- Small lemmas for walks: worlds that have grown out of one world; a region that draws its order, in the class of these. -/
import Derived.WalkKit
import Derived.WalkSpells
import Derived.WalkLawsBesides
import Derived.Deep.QuietTactic
import Derived.BigQuiet
import Derived.Lib.Hide
namespace Go.Ear
open Go.RowKit

/-- A world that has grown out of W: what was there is as it was. -/
structure Grows (W : World) where
  w : World
  h : Below W.heap.size W w

instance (W : World) : Nonempty (Grows W) := ⟨⟨W, Below.refl _ _⟩⟩

/-- How many blocks W has, in the walk's own spelling: found by instances. -/
class HS (W : World) (n : outParam Nat) : Prop where
  eq : W.heap.size = n
instance (priority := low) (W : World) : HS W W.heap.size := ⟨rfl⟩
instance (W : World) (o : Obj) (n : Nat) [h : HS W n] : HS (W.alloc o) (n + 1) := ⟨by simp [h.eq]⟩
instance (W : World) (p : Addr) (v : Value) (n : Nat) [h : HS W n] : HS (W.setCell p v) n := ⟨by simpa [World.setCell] using h.eq⟩
instance (W : World) (n : Nat) [h : HS W n] : HS W.drew n := ⟨h.eq⟩
instance (W : World) (k n : Nat) [h : HS W n] : HS (W.drewN k) n := ⟨h.eq⟩

/-- Block number b lies in W: found by instances, however the world W was made. -/
class Old (b : Nat) (W : World) : Prop where
  lt : b < W.heap.size

section
variable {W : World}
instance (b : Nat) (g : Grows W) [h : Old b W] : Old b g.w := ⟨Nat.lt_of_lt_of_le h.lt g.h.size⟩
instance (b : Nat) (o : Obj) [h : Old b W] : Old b (W.alloc o) := ⟨by have := h.lt; simp; omega⟩
instance (b : Nat) (o : Obj) [h : HS W b] : Old b (W.alloc o) := ⟨by simp [h.eq]⟩
instance (b : Nat) [h : Old b W] : Old b W.drew := ⟨h.lt⟩
instance (b n : Nat) [h : Old b W] : Old b (W.drewN n) := ⟨h.lt⟩
instance (b : Nat) (p : Addr) (v : Value) [h : Old b W] : Old b (W.setCell p v) := ⟨by simpa [World.setCell] using h.lt⟩
@[go_sem] theorem old_lt (b : Nat) [h : Old b W] : (b < W.heap.size) = True := eq_true h.lt
@[go_sem] theorem old_le (b : Nat) [h : Old b W] : (b ≤ W.heap.size) = True := eq_true (Nat.le_of_lt h.lt)
@[go_sem] theorem old_ne (b : Nat) [h : Old b W] : (b = W.heap.size) = False := eq_false (Nat.ne_of_lt h.lt)
@[go_sem] theorem old_ne' (b : Nat) [h : Old b W] : (W.heap.size = b) = False := eq_false (Nat.ne_of_gt h.lt)
@[go_sem] theorem old_lt1 (b : Nat) [h : Old b W] : (b < W.heap.size + 1) = True := eq_true (by have := h.lt; omega)
@[go_sem] theorem old_le1 (b : Nat) [h : Old b W] : (b ≤ W.heap.size + 1) = True := eq_true (by have := h.lt; omega)
@[go_sem] theorem old_ne1 (b : Nat) [h : Old b W] : (b = W.heap.size + 1) = False := eq_false (by have := h.lt; omega)
@[go_sem] theorem old_lt2 (b : Nat) [h : Old b W] : (b < W.heap.size + 1 + 1) = True := eq_true (by have := h.lt; omega)
@[go_sem] theorem old_le2 (b : Nat) [h : Old b W] : (b ≤ W.heap.size + 1 + 1) = True := eq_true (by have := h.lt; omega)
@[go_sem] theorem old_ne2 (b : Nat) [h : Old b W] : (b = W.heap.size + 1 + 1) = False := eq_false (by have := h.lt; omega)
@[go_sem] theorem old_lt3 (b : Nat) [h : Old b W] : (b < W.heap.size + 1 + 1 + 1) = True := eq_true (by have := h.lt; omega)
@[go_sem] theorem old_le3 (b : Nat) [h : Old b W] : (b ≤ W.heap.size + 1 + 1 + 1) = True := eq_true (by have := h.lt; omega)
@[go_sem] theorem old_ne3 (b : Nat) [h : Old b W] : (b = W.heap.size + 1 + 1 + 1) = False := eq_false (by have := h.lt; omega)
@[go_sem] theorem old_lt4 (b : Nat) [h : Old b W] : (b < W.heap.size + 1 + 1 + 1 + 1) = True := eq_true (by have := h.lt; omega)
@[go_sem] theorem old_le4 (b : Nat) [h : Old b W] : (b ≤ W.heap.size + 1 + 1 + 1 + 1) = True := eq_true (by have := h.lt; omega)
@[go_sem] theorem old_ne4 (b : Nat) [h : Old b W] : (b = W.heap.size + 1 + 1 + 1 + 1) = False := eq_false (by have := h.lt; omega)
@[go_sem] theorem old_lt5 (b : Nat) [h : Old b W] : (b < W.heap.size + 1 + 1 + 1 + 1 + 1) = True := eq_true (by have := h.lt; omega)
@[go_sem] theorem old_le5 (b : Nat) [h : Old b W] : (b ≤ W.heap.size + 1 + 1 + 1 + 1 + 1) = True := eq_true (by have := h.lt; omega)
@[go_sem] theorem old_ne5 (b : Nat) [h : Old b W] : (b = W.heap.size + 1 + 1 + 1 + 1 + 1) = False := eq_false (by have := h.lt; omega)
@[go_sem] theorem old_lt6 (b : Nat) [h : Old b W] : (b < W.heap.size + 1 + 1 + 1 + 1 + 1 + 1) = True := eq_true (by have := h.lt; omega)
@[go_sem] theorem old_le6 (b : Nat) [h : Old b W] : (b ≤ W.heap.size + 1 + 1 + 1 + 1 + 1 + 1) = True := eq_true (by have := h.lt; omega)
@[go_sem] theorem old_ne6 (b : Nat) [h : Old b W] : (b = W.heap.size + 1 + 1 + 1 + 1 + 1 + 1) = False := eq_false (by have := h.lt; omega)
@[go_sem] theorem old_lt7 (b : Nat) [h : Old b W] : (b < W.heap.size + 1 + 1 + 1 + 1 + 1 + 1 + 1) = True := eq_true (by have := h.lt; omega)
@[go_sem] theorem old_le7 (b : Nat) [h : Old b W] : (b ≤ W.heap.size + 1 + 1 + 1 + 1 + 1 + 1 + 1) = True := eq_true (by have := h.lt; omega)
@[go_sem] theorem old_ne7 (b : Nat) [h : Old b W] : (b = W.heap.size + 1 + 1 + 1 + 1 + 1 + 1 + 1) = False := eq_false (by have := h.lt; omega)
@[go_sem] theorem old_lt8 (b : Nat) [h : Old b W] : (b < W.heap.size + 1 + 1 + 1 + 1 + 1 + 1 + 1 + 1) = True := eq_true (by have := h.lt; omega)
@[go_sem] theorem old_le8 (b : Nat) [h : Old b W] : (b ≤ W.heap.size + 1 + 1 + 1 + 1 + 1 + 1 + 1 + 1) = True := eq_true (by have := h.lt; omega)
@[go_sem] theorem old_ne8 (b : Nat) [h : Old b W] : (b = W.heap.size + 1 + 1 + 1 + 1 + 1 + 1 + 1 + 1) = False := eq_false (by have := h.lt; omega)
@[go_sem] theorem Grows.cell_eq (g : Grows W) (b o : Nat) [h : Old b W] : g.w.cell? ⟨b, o, none⟩ = W.cell? ⟨b, o, none⟩ := g.h.cell (p := ⟨b, o, none⟩) h.lt
@[go_sem] theorem Grows.frozen_eq (g : Grows W) (b o : Nat) [h : Old b W] : g.w.frozen? ⟨b, o, none⟩ = W.frozen? ⟨b, o, none⟩ := g.h.frozen (p := ⟨b, o, none⟩) h.lt
@[go_sem] theorem old_cell_alloc (ob : Obj) (b o : Nat) [h : Old b W] : (W.alloc ob).cell? ⟨b, o, none⟩ = W.cell? ⟨b, o, none⟩ := World.cell?_alloc_lt W ob ⟨b, o, none⟩ h.lt
@[go_sem] theorem old_frozen_alloc (ob : Obj) (b o : Nat) [h : Old b W] : (W.alloc ob).frozen? ⟨b, o, none⟩ = W.frozen? ⟨b, o, none⟩ := World.frozen?_alloc_old W ob ⟨b, o, none⟩ (Nat.ne_of_lt h.lt)
/-- Grown out of what has grown out of W. -/
def Grows.join (g : Grows W) (g2 : Grows g.w) : Grows W := ⟨g2.w, g.h.trans (g2.h.mono g.h.size)⟩
@[go_sem] theorem Grows.w_join (g : Grows W) (g2 : Grows g.w) : g2.w = (g.join g2).w := rfl
end

/-- What a contract says of a function that answers one value and writes nothing that was there. -/
def Gr (v : Value) (w : World) : Ending → World → Prop := fun e w' => e = .returned v ∧ ∃ g : Grows w, w' = g.w

theorem gr_mk {e : Ending} {v : Value} {w w' : World} (he : e = .returned v) (h : Below w.heap.size w w') : Gr v w e w' := ⟨he, ⟨w', h⟩, rfl⟩
theorem gr_same {e : Ending} {v : Value} {w : World} (he : e = .returned v) : Gr v w e w := gr_mk he (Below.refl _ _)

theorem grow_alloc {a b : World} (h : Below a.heap.size a b) (o : Obj) : Below a.heap.size a (b.alloc o) := h.alloc h.size _
theorem grow_g {a b : World} (h : Below a.heap.size a b) (g : Grows b) : Below a.heap.size a g.w := h.trans (g.h.mono h.size)
theorem grow_drew {a b : World} (h : Below a.heap.size a b) : Below a.heap.size a b.drew := h.drew
theorem grow_set {a b : World} (h : Below a.heap.size a b) {p : Addr} (hp : a.heap.size ≤ p.block) (u : Value) : Below a.heap.size a (b.setCell p u) := h.setCell hp u

theorem wp_region_grows {P : Program} {id : Nat} {Q : Exit → Act → World → Prop} {a : Act} {W : World} {l : List Oper} (hm : P.follows .mixedOrders = true) (hB : Region.lexB .any l.toArray = true)
    (h : wpQuiet P l.toArray (fun w' => ∃ g : Grows W, w' = g.w) (fun a' => ∀ w', (∃ g : Grows W, w' = g.w) → Q .normal a' w') l a) : (Code.region id l.toArray true).wp P Q a W :=
  wp_region_quiet (C := fun w' => ∃ g : Grows W, w' = g.w) hm hB ⟨⟨W.drew, (Below.refl _ _).drew⟩, rfl⟩ (by simpa using h)

theorem grows_of {P : Program} {f : FuncId} {args : Array Value} {W : World} {g : Grows W} {v : Value}
    (h : Calls P f args g.w (Gr v g.w)) : Calls P f args g.w fun e w'' => e = .returned v ∧ ∃ g' : Grows W, w'' = g'.w :=
  h.mono fun _ _ ⟨he, g', hg⟩ => ⟨he, ⟨g'.w, g.h.trans (g'.h.mono g.h.size)⟩, hg⟩
end Go.Ear
