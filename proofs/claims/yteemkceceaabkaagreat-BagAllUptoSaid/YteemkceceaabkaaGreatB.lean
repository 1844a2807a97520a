/- A bag in memory; New, Len, Room, asked. -/
import Derived.Test.YteemkceceaabkaaGreatA
namespace Go.Proofs.YteemkceceaabkaaGreat
open Go.RowKit Go.Ear
set_option maxHeartbeats 1000000

/-- A datagram. -/
structure Gm where
  id : Int
  fr : Int
  to : Int
  data : List UInt8
/-- A bag. -/
structure BagS where
  room : Int
  last : Int
  l : List Gm

def hcells (x : Gm × Value) : List Value := [i64 x.1.id, i64 x.1.fr, i64 x.1.to, x.2]
def flat (l : List Gm) (vs : List Value) : List Value := (l.zip vs).flatMap hcells

/-- A bag at block p, its datagrams in the slice gs, their bytes in the slices vs. -/
structure BagRep (w : World) (p : Nat) (B : BagS) (gs : Value) (vs : List Value) : Prop where
  blk : w.heap[p]? = some (.cells #[i64 B.room, i64 B.last, gs] 67 (0, 0))
  own : w.ownsRow 0 110 4 gs B.l.length (flat B.l vs)
  len : vs.length = B.l.length
  data : ∀ (i : Nat) (g : Gm) (v : Value), B.l[i]? = some g → vs[i]? = some v → w.ownsRow 0 5 1 v g.data.length (bv g.data)
  apart : ∀ (i j : Nat) (v v' : Value) (k : Nat), vs[i]? = some v → vs[j]? = some v' → v.ownBlock = some k → v'.ownBlock = some k → i = j
  fits : (B.l.length : Int) ≤ B.room ∧ B.room ≤ 65536
  lasts : 0 ≤ B.last ∧ B.last ≤ 1000000000000
  small : ∀ g ∈ B.l, g.data.length ≤ 1024

def foot (p : Nat) (gs : Value) (vs : List Value) (k : Nat) : Prop := k = p ∨ gs.ownBlock = some k ∨ ∃ v ∈ vs, v.ownBlock = some k
/-- A bag at block p; F: the blocks that are its own. -/
def IsBag (w : World) (p : Nat) (B : BagS) (F : Nat → Prop) : Prop := ∃ gs vs, BagRep w p B gs vs ∧ ∀ k, F k ↔ foot p gs vs k

section
variable {w w' : World} {p : Nat} {B : BagS} {gs : Value} {vs : List Value} {F G : Nat → Prop}
theorem BagRep.plt (h : BagRep w p B gs vs) : p < w.heap.size := (Array.getElem?_eq_some_iff.1 h.blk).1
theorem BagRep.lt (h : BagRep w p B gs vs) {k : Nat} (hk : foot p gs vs k) : k < w.heap.size := by
  rcases hk with rfl | hk | ⟨v, hv, hk⟩
  · exact h.plt
  · exact (h.own.lt k hk).2
  · obtain ⟨i, hi⟩ := List.mem_iff_getElem?.1 hv
    have hl : i < B.l.length := by have := (List.getElem?_eq_some_iff.1 hi).1; have := h.len; omega
    exact ((h.data i _ v (List.getElem?_eq_getElem hl) hi).lt k hk).2
theorem BagRep.chg (h : BagRep w p B gs vs) (hc : Chg G w w') (hG : ∀ k, foot p gs vs k → ¬ G k) : BagRep w' p B gs vs :=
  { h with
    blk := (hc.block p h.plt (hG p (.inl rfl))).trans h.blk
    own := own_chg h.own hc fun k hk => hG k (.inr (.inl hk))
    data := fun i g v hg hv => own_chg (h.data i g v hg hv) hc fun k hk => hG k (.inr (.inr ⟨v, List.mem_of_getElem? hv, hk⟩)) }
theorem IsBag.chg (h : IsBag w p B F) (hc : Chg G w w') (hG : ∀ k, F k → ¬ G k) : IsBag w' p B F := by
  obtain ⟨gs, vs, hr, hF⟩ := h
  exact ⟨gs, vs, hr.chg hc (fun k hk => hG k ((hF k).2 hk)), hF⟩
theorem IsBag.lt (h : IsBag w p B F) {k : Nat} (hk : F k) : k < w.heap.size := by
  obtain ⟨gs, vs, hr, hF⟩ := h
  exact hr.lt ((hF k).1 hk)
theorem IsBag.grow (h : IsBag w p B F) (hc : Chg Noth w w') : IsBag w' p B F := h.chg hc fun _ _ e => e
/-- What a walk wants of a bag: its three cells. -/
theorem BagRep.cells (h : BagRep w p B gs vs) : w.cell? ⟨p, 0, none⟩ = some (i64 B.room) ∧ w.cell? ⟨p, 1, none⟩ = some (i64 B.last) ∧ w.cell? ⟨p, 2, none⟩ = some gs ∧
    (∀ o, w.frozen? ⟨p, o, none⟩ = false) :=
  ⟨by rw [cell_of_row w p 0 _ _ _ h.blk]; rfl, by rw [cell_of_row w p 1 _ _ _ h.blk]; rfl, by rw [cell_of_row w p 2 _ _ _ h.blk]; rfl, fun o => frozen_of_row w p o _ _ h.blk⟩
end

theorem new_bad (r : Int) (w : World) (h : r < 0 ∨ 65536 < r) : Calls Tryz.prog 20 #[i64 r] w (Gr (.tuple #[.pointer none, i64 1]) w) := by
  rcases h with h | h
  all_goals
    go_enter Tryz.func20, Tryz.ntmps20
    go_wp2
    go_ret2
    exact gr_same rfl
theorem new_good (r : Int) (w : World) (h0 : 0 ≤ r) (h1 : r ≤ 65536) :
    Calls Tryz.prog 20 #[i64 r] w fun e w' => e = .returned (.tuple #[.pointer (some ⟨w.heap.size, 0, none⟩), i64 0]) ∧ (∃ g : Grows w, w' = g.w) ∧ IsBag w' w.heap.size ⟨r, 0, []⟩ (fun k => k = w.heap.size) := by
  go_enter Tryz.func20, Tryz.ntmps20
  go_wp2
  go_ret2
  refine ⟨rfl, muts_ex (chg_alloc (Chg.refl _ _) _), .slice none 0 0, [], ⟨heap_alloc_new _ _, World.ownsRow_nil _ _ _ _, rfl, fun _ _ _ h => by simp at h, fun _ _ _ _ _ h => by simp at h, ⟨by simpa using h0, h1⟩, ⟨by simp, by simp⟩, fun _ h => by simp at h⟩, fun k => by simp [foot, Value.ownBlock]⟩

theorem len_any (p : Nat) (B : BagS) (F : Nat → Prop) (w : World) (h : IsBag w p B F) : Calls Tryz.prog 97 #[.pointer (some ⟨p, 0, none⟩)] w (Gr (i64 B.l.length) w) := by
  obtain ⟨gs, vs, hr, _⟩ := h
  obtain ⟨c0, c1, c2, _⟩ := hr.cells
  obtain ⟨A, c, rfl⟩ := own_shape hr.own
  go_enter Tryz.func97, Tryz.ntmps97
  go_wp2
  go_ret
  exact gr_same rfl
theorem room_any (p : Nat) (B : BagS) (F : Nat → Prop) (w : World) (h : IsBag w p B F) : Calls Tryz.prog 79 #[.pointer (some ⟨p, 0, none⟩)] w (Gr (i64 (B.room - B.l.length)) w) := by
  obtain ⟨gs, vs, hr, _⟩ := h
  obtain ⟨c0, c1, c2, _⟩ := hr.cells
  obtain ⟨b1, b2⟩ := hr.fits
  have i1 : Old p w := ⟨hr.plt⟩
  obtain ⟨A, c, rfl⟩ := own_shape hr.own
  go_enter Tryz.func79, Tryz.ntmps79
  go_wp2
  refine wp_region_grows (by kernel_rfl) (by kernel_rfl) ?_
  repeat (go_big_quiet_step (fail))
  refine wpQuiet_nil ?_
  rintro _ ⟨g, rfl⟩
  go_wp2
  go_ret
  exact gr_mk rfl (by repeat (with_reducible first | exact Chg.refl _ _ | refine chg_g ?_ _ | refine chg_alloc ?_ _ | refine chg_drew ?_ | refine chg_drewN ?_ _ | refine chg_set ?_ _ _ _))

/-- What asked answers. -/
def askedF (n : Nat) : List Int → Int
  | [] => 0
  | i :: r => if i < 0 ∨ (n : Int) ≤ i then 91 else askedF n r
theorem asked_one (p : Nat) (B : BagS) (F : Nat → Prop) (c : Nat) (g : Nat) (i : Int) (w : World) (h : IsBag w p B F) (hg : w.cell? ⟨g, 0, none⟩ = some (i64 i)) (hlt : g < w.heap.size) :
    Calls Tryz.prog 124 #[.pointer (some ⟨p, 0, none⟩), .slice (some ⟨g, 0, none⟩) 1 c] w (Gr (i64 (askedF B.l.length [i])) w) := by
  obtain ⟨gs, vs, hr, _⟩ := h
  obtain ⟨c0, c1, c2, _⟩ := hr.cells
  obtain ⟨b1, b2⟩ := hr.fits
  have i1 : Old p w := ⟨hr.plt⟩
  have i2 : Old g w := ⟨hlt⟩
  obtain ⟨A, c, rfl⟩ := own_shape hr.own
  have hu := b1
  rcases (show i < 0 ∨ (0 ≤ i ∧ (B.l.length : Int) ≤ i) ∨ (0 ≤ i ∧ i < (B.l.length : Int)) from by omega) with h1 | ⟨h0, h1⟩ | ⟨h0, h1⟩
  all_goals
    go_enter Tryz.func124, Tryz.ntmps124
    go_wp2
    refine wp_scope_fwd 0 rfl ?_
    go_wp2
    refine wp_loop_rounds 2 ?_
    rw [rounds_succ]
    go_wp2
    first
      | (go_step3
         simp only [Exit.inBlock, Exit.then]
         refine ⟨rfl, ?_⟩
         go_wp2
         rw [Exit.noGoto_ret]
         go_ret
         exact gr_same (by simp [askedF, *]))
      | (rw [rounds_succ]
         go_wp2
         simp only [Exit.jump]
         go_ret
         exact gr_same (by simp [askedF]; omega))
theorem asked_two (p : Nat) (B : BagS) (F : Nat → Prop) (c : Nat) (g : Nat) (i j : Int) (w : World) (h : IsBag w p B F) (hg : w.cell? ⟨g, 0, none⟩ = some (i64 i)) (hg2 : w.cell? ⟨g, 1, none⟩ = some (i64 j)) (hlt : g < w.heap.size) :
    Calls Tryz.prog 124 #[.pointer (some ⟨p, 0, none⟩), .slice (some ⟨g, 0, none⟩) 2 c] w (Gr (i64 (askedF B.l.length [i, j])) w) := by
  obtain ⟨gs, vs, hr, _⟩ := h
  obtain ⟨c0, c1, c2, _⟩ := hr.cells
  obtain ⟨b1, b2⟩ := hr.fits
  have i1 : Old p w := ⟨hr.plt⟩
  have i2 : Old g w := ⟨hlt⟩
  obtain ⟨A, c, rfl⟩ := own_shape hr.own
  have hu := b1
  rcases (show i < 0 ∨ (0 ≤ i ∧ (B.l.length : Int) ≤ i) ∨ (0 ≤ i ∧ i < (B.l.length : Int) ∧ j < 0) ∨ (0 ≤ i ∧ i < (B.l.length : Int) ∧ 0 ≤ j ∧ (B.l.length : Int) ≤ j) ∨ (0 ≤ i ∧ i < (B.l.length : Int) ∧ 0 ≤ j ∧ j < (B.l.length : Int)) from by omega) with h1 | ⟨h0, h1⟩ | ⟨h0, h1, h2⟩ | ⟨h0, h1, h2, h3⟩ | ⟨h0, h1, h2, h3⟩
  all_goals
    go_enter Tryz.func124, Tryz.ntmps124
    go_wp2
    refine wp_scope_fwd 0 rfl ?_
    go_wp2
    refine wp_loop_rounds 3 ?_
    rw [rounds_succ]
    go_wp2
    try (rw [rounds_succ]; go_wp2)
    first
      | (go_step3
         simp only [Exit.inBlock, Exit.then]
         refine ⟨rfl, ?_⟩
         go_wp2
         rw [Exit.noGoto_ret]
         go_ret
         exact gr_same (by simp [askedF, *]))
      | (rw [rounds_succ]
         go_wp2
         simp only [Exit.jump]
         go_ret
         exact gr_same (by simp [askedF]; omega))
end Go.Proofs.YteemkceceaabkaaGreat
