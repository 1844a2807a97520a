/- The document's bag in memory: has, At, Send, Take. -/
import Derived.Test.YteemkceceaabkaaGreatP1
import Derived.Test.YteemkceceaabkaaGreatJ
import Derived.Deep.RegionLaw
namespace Go.Proofs.YteemkceceaabkaaGreat
open Go.RowKit Go.Ear
set_option maxHeartbeats 1000000
set_option maxRecDepth 40000

/-- The document's bag at cell off of block lb, whose cells are cs. -/
structure RefRep (w : World) (lb off : Nat) (cs : Array Value) (t : TypeId) (B : BagS) (gs : Value) (vs : List Value) : Prop where
  blk : w.heap[lb]? = some (.cells cs t (0, 0))
  ne : t ≠ 110 ∧ t ≠ 5
  c0 : cs[off]? = some gs
  c1 : cs[off + 1]? = some (i64 B.last)
  c2 : cs[off + 2]? = some (i64 B.room)
  own : w.ownsRow 0 110 4 gs B.l.length (flat B.l vs)
  len : vs.length = B.l.length
  data : ∀ (i : Nat) (g : Gm) (v : Value), B.l[i]? = some g → vs[i]? = some v → w.ownsRow 0 5 1 v g.data.length (bv g.data)
  fits : (B.l.length : Int) ≤ B.room ∧ B.room ≤ 65536
  lasts : 0 ≤ B.last ∧ B.last ≤ 1000000000000
  small : ∀ g ∈ B.l, g.data.length ≤ 1024
def footR (gs : Value) (vs : List Value) (k : Nat) : Prop := gs.ownBlock = some k ∨ ∃ v ∈ vs, v.ownBlock = some k
def IsRef (w : World) (lb off : Nat) (cs : Array Value) (t : TypeId) (B : BagS) (F : Nat → Prop) : Prop := ∃ gs vs, RefRep w lb off cs t B gs vs ∧ ∀ k, F k ↔ footR gs vs k

section
variable {w w' : World} {lb off : Nat} {cs : Array Value} {t : TypeId} {B : BagS} {gs : Value} {vs : List Value} {F G : Nat → Prop}
theorem RefRep.lt (h : RefRep w lb off cs t B gs vs) {k : Nat} (hk : footR gs vs k) : k < w.heap.size := by
  rcases hk with hk | ⟨v, hv, hk⟩
  · exact (h.own.lt k hk).2
  · obtain ⟨i, hi⟩ := List.mem_iff_getElem?.1 hv
    have hl : i < B.l.length := by have := (List.getElem?_eq_some_iff.1 hi).1; have := h.len; omega
    exact ((h.data i _ v (List.getElem?_eq_getElem hl) hi).lt k hk).2
theorem RefRep.ne_lb (h : RefRep w lb off cs t B gs vs) {k : Nat} (hk : footR gs vs k) : k ≠ lb := by
  rcases hk with hk | ⟨v, hv, hk⟩
  · exact own_ne h.own h.blk (Ne.symm h.ne.1) k hk
  · obtain ⟨i, hi⟩ := List.mem_iff_getElem?.1 hv
    have hl : i < B.l.length := by have := (List.getElem?_eq_some_iff.1 hi).1; have := h.len; omega
    exact own_ne (h.data i _ v (List.getElem?_eq_getElem hl) hi) h.blk (Ne.symm h.ne.2) k hk
theorem RefRep.chg (h : RefRep w lb off cs t B gs vs) (hc : Chg G w w') (hl : ¬ G lb) (hG : ∀ k, footR gs vs k → ¬ G k) : RefRep w' lb off cs t B gs vs :=
  { h with
    blk := (hc.block lb (Array.getElem?_eq_some_iff.1 h.blk).1 hl).trans h.blk
    own := own_chg h.own hc fun k hk => hG k (.inl hk)
    data := fun i g v hg hv => own_chg (h.data i g v hg hv) hc fun k hk => hG k (.inr ⟨v, List.mem_of_getElem? hv, hk⟩) }
theorem IsRef.chg (h : IsRef w lb off cs t B F) (hc : Chg G w w') (hl : ¬ G lb) (hG : ∀ k, F k → ¬ G k) : IsRef w' lb off cs t B F := by
  obtain ⟨gs, vs, hr, hF⟩ := h
  exact ⟨gs, vs, hr.chg hc hl (fun k hk => hG k ((hF k).2 hk)), hF⟩
theorem IsRef.grow (h : IsRef w lb off cs t B F) (hc : Chg Noth w w') : IsRef w' lb off cs t B F := h.chg hc (fun e => e) fun _ _ e => e
theorem IsRef.lt (h : IsRef w lb off cs t B F) {k : Nat} (hk : F k) : k < w.heap.size := by
  obtain ⟨gs, vs, hr, hF⟩ := h
  exact hr.lt ((hF k).1 hk)
theorem RefRep.cells (h : RefRep w lb off cs t B gs vs) : w.cell? ⟨lb, off, none⟩ = some gs ∧ w.cell? ⟨lb, off + 1, none⟩ = some (i64 B.last) ∧ w.cell? ⟨lb, off + 2, none⟩ = some (i64 B.room) ∧ (∀ o, w.frozen? ⟨lb, o, none⟩ = false) ∧ lb < w.heap.size :=
  ⟨by rw [cell_of_row w lb off _ _ _ h.blk, h.c0], by rw [cell_of_row w lb (off + 1) _ _ _ h.blk, h.c1], by rw [cell_of_row w lb (off + 2) _ _ _ h.blk, h.c2], fun o => frozen_of_row w lb o _ _ h.blk, (Array.getElem?_eq_some_iff.1 h.blk).1⟩
end

theorem has_any (lb off : Nat) (cs : Array Value) (t : TypeId) (B : BagS) (F : Nat → Prop) (i : Int) (w : World) (h : IsRef w lb off cs t B F) :
    Calls Tryz.prog 127 #[.pointer (some ⟨lb, off, none⟩), i64 i] w (Gr (.bool (decide (0 ≤ i ∧ i < (B.l.length : Int)))) w) := by
  obtain ⟨gs, vs, hr, _⟩ := h
  obtain ⟨c0, c1, c2, _, hlt⟩ := hr.cells
  have i1 : Old lb w := ⟨hlt⟩
  obtain ⟨A, c, rfl⟩ := own_shape hr.own
  obtain ⟨b1, b2⟩ := hr.fits
  obtain ⟨n, hn⟩ : ∃ n, n = B.l.length := ⟨_, rfl⟩
  rw [← hn] at c0 b1 ⊢
  clear hn hr c1 c2
  rcases (show i < 0 ∨ (0 ≤ i ∧ (n : Int) ≤ i) ∨ (0 ≤ i ∧ i < (n : Int)) from by omega) with h1 | ⟨h0, h1⟩ | ⟨h0, h1⟩
  all_goals
    go_enter Tryz.func127, Tryz.ntmps127
    go_wp2
    go_ret
    exact gr_same (by congr 1; simp; omega)
end Go.Proofs.YteemkceceaabkaaGreat
