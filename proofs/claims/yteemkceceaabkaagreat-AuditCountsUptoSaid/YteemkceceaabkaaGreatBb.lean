/- A bag in memory; New, Len, Room, asked. -/
import Derived.Test.YteemkceceaabkaaGreatA
import Derived.BigRegion
import Derived.Deep.RegionLaw
set_option linter.unusedSimpArgs false
set_option linter.unusedVariables false
namespace Go.Proofs.YteemkceceaabkaaGreat
open Go.RowKit Go.Ear
set_option maxHeartbeats 1000000

/-- A datagram. -/
structure Gm where
  id : Int
  fr : Int
  to : Int
  data : List UInt8
/-- A bag. -/
structure BagS where
  room : Int
  last : Int
  l : List Gm

def hcells (x : Gm × Value) : List Value := [i64 x.1.id, i64 x.1.fr, i64 x.1.to, x.2]
def flat (l : List Gm) (vs : List Value) : List Value := (l.zip vs).flatMap hcells

/-- A bag at block p, its datagrams in the slice gs, their bytes in the slices vs. -/
structure BagRep (w : World) (p : Nat) (B : BagS) (gs : Value) (vs : List Value) : Prop where
  blk : w.heap[p]? = some (.cells #[i64 B.room, i64 B.last, gs] 67 (0, 0))
  own : w.ownsRow 0 110 4 gs B.l.length (flat B.l vs)
  len : vs.length = B.l.length
  data : ∀ (i : Nat) (g : Gm) (v : Value), B.l[i]? = some g → vs[i]? = some v → w.ownsRow 0 5 1 v g.data.length (bv g.data)
  apart : ∀ (i j : Nat) (v v' : Value) (k : Nat), vs[i]? = some v → vs[j]? = some v' → v.ownBlock = some k → v'.ownBlock = some k → i = j
  fits : (B.l.length : Int) ≤ B.room ∧ B.room ≤ 65536
  lasts : 0 ≤ B.last ∧ B.last ≤ 1000000000000
  small : ∀ g ∈ B.l, g.data.length ≤ 1024

def foot (p : Nat) (gs : Value) (vs : List Value) (k : Nat) : Prop := k = p ∨ gs.ownBlock = some k ∨ ∃ v ∈ vs, v.ownBlock = some k
/-- A bag at block p; F: the blocks that are its own. -/
def IsBag (w : World) (p : Nat) (B : BagS) (F : Nat → Prop) : Prop := ∃ gs vs, BagRep w p B gs vs ∧ ∀ k, F k ↔ foot p gs vs k

section
variable {w w' : World} {p : Nat} {B : BagS} {gs : Value} {vs : List Value} {F G : Nat → Prop}
theorem BagRep.plt (h : BagRep w p B gs vs) : p < w.heap.size := (Array.getElem?_eq_some_iff.1 h.blk).1
theorem BagRep.lt (h : BagRep w p B gs vs) {k : Nat} (hk : foot p gs vs k) : k < w.heap.size := by
  rcases hk with rfl | hk | ⟨v, hv, hk⟩
  · exact h.plt
  · exact (h.own.lt k hk).2
  · obtain ⟨i, hi⟩ := List.mem_iff_getElem?.1 hv
    have hl : i < B.l.length := by have := (List.getElem?_eq_some_iff.1 hi).1; have := h.len; omega
    exact ((h.data i _ v (List.getElem?_eq_getElem hl) hi).lt k hk).2
theorem BagRep.chg (h : BagRep w p B gs vs) (hc : Chg G w w') (hG : ∀ k, foot p gs vs k → ¬ G k) : BagRep w' p B gs vs :=
  { h with
    blk := (hc.block p h.plt (hG p (.inl rfl))).trans h.blk
    own := own_chg h.own hc fun k hk => hG k (.inr (.inl hk))
    data := fun i g v hg hv => own_chg (h.data i g v hg hv) hc fun k hk => hG k (.inr (.inr ⟨v, List.mem_of_getElem? hv, hk⟩)) }
theorem IsBag.chg (h : IsBag w p B F) (hc : Chg G w w') (hG : ∀ k, F k → ¬ G k) : IsBag w' p B F := by
  obtain ⟨gs, vs, hr, hF⟩ := h
  exact ⟨gs, vs, hr.chg hc (fun k hk => hG k ((hF k).2 hk)), hF⟩
theorem IsBag.lt (h : IsBag w p B F) {k : Nat} (hk : F k) : k < w.heap.size := by
  obtain ⟨gs, vs, hr, hF⟩ := h
  exact hr.lt ((hF k).1 hk)
theorem IsBag.grow (h : IsBag w p B F) (hc : Chg Noth w w') : IsBag w' p B F := h.chg hc fun _ _ e => e
/-- What a walk wants of a bag: its three cells. -/
theorem BagRep.cells (h : BagRep w p B gs vs) : w.cell? ⟨p, 0, none⟩ = some (i64 B.room) ∧ w.cell? ⟨p, 1, none⟩ = some (i64 B.last) ∧ w.cell? ⟨p, 2, none⟩ = some gs ∧
    (∀ o, w.frozen? ⟨p, o, none⟩ = false) :=
  ⟨by rw [cell_of_row w p 0 _ _ _ h.blk]; rfl, by rw [cell_of_row w p 1 _ _ _ h.blk]; rfl, by rw [cell_of_row w p 2 _ _ _ h.blk]; rfl, fun o => frozen_of_row w p o _ _ h.blk⟩
end

theorem new_bad (r : Int) (w : World) (h : r < 0 ∨ 65536 < r) : Calls Tryz.prog 20 #[i64 r] w (Gr (.tuple #[.pointer none, i64 1]) w) := by
  rcases h with h | h
  all_goals
    go_enter Tryz.func20, Tryz.ntmps20
    go_wp2
    go_ret2
    exact gr_same rfl
theorem new_good (r : Int) (w : World) (h0 : 0 ≤ r) (h1 : r ≤ 65536) :
    Calls Tryz.prog 20 #[i64 r] w fun e w' => e = .returned (.tuple #[.pointer (some ⟨w.heap.size, 0, none⟩), i64 0]) ∧ (∃ g : Grows w, w' = g.w) ∧ IsBag w' w.heap.size ⟨r, 0, []⟩ (fun k => k = w.heap.size) := by
  go_enter Tryz.func20, Tryz.ntmps20
  go_wp2
  go_ret2
  refine ⟨rfl, muts_ex (chg_alloc (Chg.refl _ _) _), .slice none 0 0, [], ⟨heap_alloc_new _ _, World.ownsRow_nil _ _ _ _, rfl, fun _ _ _ h => by simp at h, fun _ _ _ _ _ h => by simp at h, ⟨by simpa using h0, h1⟩, ⟨by simp, by simp⟩, fun _ h => by simp at h⟩, fun k => by simp [foot, Value.ownBlock]⟩

theorem len_any (p : Nat) (B : BagS) (F : Nat → Prop) (w : World) (h : IsBag w p B F) : Calls Tryz.prog 97 #[.pointer (some ⟨p, 0, none⟩)] w (Gr (i64 B.l.length) w) := by
  obtain ⟨gs, vs, hr, _⟩ := h
  obtain ⟨c0, c1, c2, _⟩ := hr.cells
  obtain ⟨A, c, rfl⟩ := own_shape hr.own
  go_enter Tryz.func97, Tryz.ntmps97
  go_wp2
  go_ret
  exact gr_same rfl
theorem room_any (p : Nat) (B : BagS) (F : Nat → Prop) (w : World) (h : IsBag w p B F) : Calls Tryz.prog 79 #[.pointer (some ⟨p, 0, none⟩)] w (Gr (i64 (B.room - B.l.length)) w) := by
  obtain ⟨gs, vs, hr, _⟩ := h
  obtain ⟨c0, c1, c2, _⟩ := hr.cells
  obtain ⟨b1, b2⟩ := hr.fits
  have i1 : Old p w := ⟨hr.plt⟩
  obtain ⟨A, c, rfl⟩ := own_shape hr.own
  go_enter Tryz.func79, Tryz.ntmps79
  go_wp2
  refine wp_region_grows (by kernel_rfl) (by kernel_rfl) ?_
  repeat (go_big_quiet_step (fail))
  refine wpQuiet_nil ?_
  rintro _ ⟨g, rfl⟩
  go_wp2
  go_ret
  exact gr_mk rfl (by repeat (with_reducible first | exact Chg.refl _ _ | refine chg_g ?_ _ | refine chg_alloc ?_ _ | refine chg_drew ?_ | refine chg_drewN ?_ _ | refine chg_set ?_ _ _ _))

/-- What asked answers. -/
def askedF (n : Nat) : List Int → Int
  | [] => 0
  | i :: r => if i < 0 ∨ (n : Int) ≤ i then 91 else askedF n r
theorem asked_one (p : Nat) (B : BagS) (F : Nat → Prop) (c : Nat) (g : Nat) (i : Int) (w : World) (h : IsBag w p B F) (hg : w.cell? ⟨g, 0, none⟩ = some (i64 i)) (hlt : g < w.heap.size) :
    Calls Tryz.prog 124 #[.pointer (some ⟨p, 0, none⟩), .slice (some ⟨g, 0, none⟩) 1 c] w (Gr (i64 (askedF B.l.length [i])) w) := by
  obtain ⟨gs, vs, hr, _⟩ := h
  obtain ⟨c0, c1, c2, _⟩ := hr.cells
  obtain ⟨b1, b2⟩ := hr.fits
  have i1 : Old p w := ⟨hr.plt⟩
  have i2 : Old g w := ⟨hlt⟩
  obtain ⟨A, c, rfl⟩ := own_shape hr.own
  have hu := b1
  rcases (show i < 0 ∨ (0 ≤ i ∧ (B.l.length : Int) ≤ i) ∨ (0 ≤ i ∧ i < (B.l.length : Int)) from by omega) with h1 | ⟨h0, h1⟩ | ⟨h0, h1⟩
  all_goals
    go_enter Tryz.func124, Tryz.ntmps124
    go_wp2
    refine wp_scope_fwd 0 rfl ?_
    go_wp2
    refine wp_loop_rounds 2 ?_
    rw [rounds_succ]
    go_wp2
    first
      | (go_step3
         simp only [Exit.inBlock, Exit.then]
         refine ⟨rfl, ?_⟩
         go_wp2
         rw [Exit.noGoto_ret]
         go_ret
         exact gr_same (by simp [askedF, *]))
      | (rw [rounds_succ]
         go_wp2
         simp only [Exit.jump]
         go_ret
         exact gr_same (by simp [askedF]; omega))
theorem asked_two (p : Nat) (B : BagS) (F : Nat → Prop) (c : Nat) (g : Nat) (i j : Int) (w : World) (h : IsBag w p B F) (hg : w.cell? ⟨g, 0, none⟩ = some (i64 i)) (hg2 : w.cell? ⟨g, 1, none⟩ = some (i64 j)) (hlt : g < w.heap.size) :
    Calls Tryz.prog 124 #[.pointer (some ⟨p, 0, none⟩), .slice (some ⟨g, 0, none⟩) 2 c] w (Gr (i64 (askedF B.l.length [i, j])) w) := by
  obtain ⟨gs, vs, hr, _⟩ := h
  obtain ⟨c0, c1, c2, _⟩ := hr.cells
  obtain ⟨b1, b2⟩ := hr.fits
  have i1 : Old p w := ⟨hr.plt⟩
  have i2 : Old g w := ⟨hlt⟩
  obtain ⟨A, c, rfl⟩ := own_shape hr.own
  have hu := b1
  rcases (show i < 0 ∨ (0 ≤ i ∧ (B.l.length : Int) ≤ i) ∨ (0 ≤ i ∧ i < (B.l.length : Int) ∧ j < 0) ∨ (0 ≤ i ∧ i < (B.l.length : Int) ∧ 0 ≤ j ∧ (B.l.length : Int) ≤ j) ∨ (0 ≤ i ∧ i < (B.l.length : Int) ∧ 0 ≤ j ∧ j < (B.l.length : Int)) from by omega) with h1 | ⟨h0, h1⟩ | ⟨h0, h1, h2⟩ | ⟨h0, h1, h2, h3⟩ | ⟨h0, h1, h2, h3⟩
  all_goals
    go_enter Tryz.func124, Tryz.ntmps124
    go_wp2
    refine wp_scope_fwd 0 rfl ?_
    go_wp2
    refine wp_loop_rounds 3 ?_
    rw [rounds_succ]
    go_wp2
    try (rw [rounds_succ]; go_wp2)
    first
      | (go_step3
         simp only [Exit.inBlock, Exit.then]
         refine ⟨rfl, ?_⟩
         go_wp2
         rw [Exit.noGoto_ret]
         go_ret
         exact gr_same (by simp [askedF, *]))
      | (rw [rounds_succ]
         go_wp2
         simp only [Exit.jump]
         go_ret
         exact gr_same (by simp [askedF]; omega))
end Go.Proofs.YteemkceceaabkaaGreat
/- put and Send. -/
namespace Go.Proofs.YteemkceceaabkaaGreat
open Go.RowKit Go.Ear
set_option maxHeartbeats 1000000

instance (p : Nat) (a : World) : May p (fun k => k = p) a := ⟨.inl rfl⟩
/-- What a call leaves that turns a bag into another one. -/
def BagTo (w : World) (p : Nat) (B' : BagS) (F : Nat → Prop) (v : Value) : Ending → World → Prop := fun e w' =>
  e = .returned v ∧ ∃ (m : Muts F w) (F' : Nat → Prop), w' = m.w ∧ IsBag m.w p B' F' ∧ ∀ k, F' k → F k ∨ w.heap.size ≤ k

theorem info35 : (Tryz.prog.info? 110).map (fun i => (i.zero, i.size, i.bytes)) = some (some (.agg #[.int .i64 0, .int .i64 0, .int .i64 0, .slice none 0 0]), 4, 48) := by kernel_rfl

theorem flat_snoc (l : List Gm) (vs : List Value) (g : Gm) (v : Value) (h : vs.length = l.length) : flat (l ++ [g]) (vs ++ [v]) = flat l vs ++ hcells (g, v) := by
  unfold flat
  rw [List.zip_append h.symm, List.flatMap_append]
  simp

/-- A bag whose list has got one more datagram, its bytes new. -/
theorem put_end {w W W' w1 : World} {p g cap : Nat} {B : BagS} {F : Nat → Prop} {gs v : Value} {vs : List Value} {fr to : Int} {l : List UInt8} (hr : BagRep w p B gs vs) (hF : ∀ k, F k ↔ foot p gs vs k)
    (hC : Chg (fun k => k = p) w W) (hBlk : W.heap[p]? = some (.cells #[i64 B.room, i64 (B.last + 1), gs] 67 (0, 0))) (hnew : Own1 W w.heap.size v l) (hC2 : Chg Noth W W') (hg : W'.grownBy w1 gs.ownBlock)
    (hown : w1.ownsRow 0 110 4 (.slice (some ⟨g, 0, none⟩) (B.l.length + 1) cap) (B.l.length + 1) (flat B.l vs ++ [i64 (B.last + 1), i64 fr, i64 to, v])) (hat : gs.ownBlock = some g ∨ g = W'.heap.size)
    (hroom : (B.l.length : Int) < B.room) (hlast : B.last < 1000000000000) (hl : l.length ≤ 1024) :
    ∃ (m : Muts F w) (F' : Nat → Prop), w1.setCell ⟨p, 2, none⟩ (.slice (some ⟨g, 0, none⟩) (B.l.length + 1) cap) = m.w ∧ IsBag m.w p ⟨B.room, B.last + 1, B.l ++ [⟨B.last + 1, fr, to, l⟩]⟩ F' ∧ ∀ k, F' k → F k ∨ w.heap.size ≤ k := by
  have hplt := hr.plt
  have hsz1 := hC.size
  have hsz2 := hC2.size
  have hsz3 := hg.size
  have hgsp := own_ne hr.own hr.blk (by decide)
  have hown0 : W.ownsRow 0 110 4 gs B.l.length (flat B.l vs) := own_chg hr.own hC hgsp
  have hgp : g ≠ p := by
    rcases hat with h | h
    · exact hgsp g h
    · omega
  have hc1 : Chg (fun k => gs.ownBlock = some k) W w1 := (hC2.mono (fun _ _ e => e.elim)).trans (Chg.of_grown hg) (fun _ _ e => e)
  have hc2 : Chg (fun k => k = p) w1 (w1.setCell ⟨p, 2, none⟩ (.slice (some ⟨g, 0, none⟩) (B.l.length + 1) cap)) := chg_set (Chg.refl _ _) p 2 _
  have hcA : Chg (fun k => k = p ∨ gs.ownBlock = some k) w (w1.setCell ⟨p, 2, none⟩ (.slice (some ⟨g, 0, none⟩) (B.l.length + 1) cap)) :=
    ((hC.mono (fun _ _ e => Or.inl e)).trans hc1 (fun _ _ e => Or.inr e)).trans hc2 (fun _ _ e => Or.inl e)
  have hdata0 : ∀ (i : Nat) (x : Gm) (u : Value), B.l[i]? = some x → vs[i]? = some u → ∀ k, u.ownBlock = some k → ¬ (k = p ∨ gs.ownBlock = some k) := by
    intro i x u hx hu k hk
    have hd := hr.data i x u hx hu
    rintro (e | e)
    · exact own_ne hd hr.blk (by decide) k hk e
    · exact own_own hd hr.own (by decide) k hk e
  have hvnew : ∀ k, v.ownBlock = some k → w.heap.size ≤ k ∧ k ≠ p ∧ gs.ownBlock ≠ some k := by
    intro k hk
    have hge := (hnew.lt k hk).1
    exact ⟨hge, by omega, fun e => own_own hnew hown0 (by decide) k hk e⟩
  have hblk1 : w1.heap[p]? = some (.cells #[i64 B.room, i64 (B.last + 1), gs] 67 (0, 0)) := by
    rw [hc1.block p (by omega) (fun e => hgsp p e rfl)]
    exact hBlk
  refine ⟨⟨_, hcA.mono fun k hk e => ?_⟩, foot p (.slice (some ⟨g, 0, none⟩) (B.l.length + 1) cap) (vs ++ [v]), rfl, ⟨_, vs ++ [v], ?_, fun _ => Iff.rfl⟩, ?_⟩
  · exact (hF k).2 (e.elim Or.inl (fun e => Or.inr (Or.inl e)))
  · refine ⟨?_, ?_, ?_, ?_, ?_, ?_, ?_, ?_⟩
    · exact heap_setCell_same _ p 2 _ _ _ hblk1
    · simp only [List.length_append, List.length_singleton]
      rw [flat_snoc _ _ _ _ hr.len]
      exact own_chg hown hc2 (fun k hk => by simp [Value.ownBlock] at hk; omega)
    · simp [hr.len]
    · intro i x u hx hu
      have hlen := hr.len
      by_cases hi : i < B.l.length
      · rw [List.getElem?_append_left hi] at hx
        rw [List.getElem?_append_left (by omega)] at hu
        exact own_chg (hr.data i x u hx hu) hcA (hdata0 i x u hx hu)
      · have hi' : i = B.l.length := by
          have := (List.getElem?_eq_some_iff.1 hx).1
          simp at this
          omega
        subst hi'
        rw [List.getElem?_append_right (by omega)] at hx hu
        simp [hlen] at hx hu
        subst hx hu
        exact own_base (own_chg (own_chg hnew hc1 (fun k hk => (hvnew k hk).2.2)) hc2 (fun k hk => (hvnew k hk).2.1)) (Nat.zero_le _)
    · intro i j u u' k hi hj hk hk'
      have hlen := hr.len
      have old : ∀ m x, m < vs.length → (vs ++ [v])[m]? = some x → vs[m]? = some x := fun m x hm h => by rwa [List.getElem?_append_left hm] at h
      have new : ∀ m x, ¬ m < vs.length → (vs ++ [v])[m]? = some x → m = vs.length ∧ x = v := fun m x hm h => by
        have := (List.getElem?_eq_some_iff.1 h).1
        simp at this
        have e : m = vs.length := by omega
        subst e
        simp at h
        exact ⟨rfl, h.symm⟩
      have lts : ∀ (m : Nat) (x : Value), vs[m]? = some x → x.ownBlock = some k → k < w.heap.size := fun m x hm hx => hr.lt (.inr (.inr ⟨x, List.mem_of_getElem? hm, hx⟩))
      by_cases h1 : i < vs.length <;> by_cases h2 : j < vs.length
      · exact hr.apart i j u u' k (old i u h1 hi) (old j u' h2 hj) hk hk'
      · obtain ⟨e1, e2⟩ := new j u' h2 hj
        subst e2
        have := lts i u (old i u h1 hi) hk
        have := (hvnew k hk').1
        omega
      · obtain ⟨e1, e2⟩ := new i u h1 hi
        subst e2
        have := lts j u' (old j u' h2 hj) hk'
        have := (hvnew k hk).1
        omega
      · rw [(new i u h1 hi).1, (new j u' h2 hj).1]
    · have := hr.fits
      simp
      omega
    · have := hr.lasts
      simp
      omega
    · intro x hx
      simp at hx
      rcases hx with hx | rfl
      · exact hr.small x hx
      · exact hl
  · rintro k (rfl | h | ⟨u, hu, hk⟩)
    · exact .inl ((hF k).2 (.inl rfl))
    · simp [Value.ownBlock] at h
      subst h
      rcases hat with h | h
      · exact .inl ((hF g).2 (.inr (.inl h)))
      · exact .inr (by omega)
    · simp at hu
      rcases hu with hu | rfl
      · exact .inl ((hF k).2 (.inr (.inr ⟨u, hu, hk⟩)))
      · exact .inr (hvnew k hk).1

theorem put_room (p : Nat) (B : BagS) (F : Nat → Prop) (id fr to : Int) (A : Option Addr) (n c : Nat) (l : List UInt8) (w : World) (h : IsBag w p B F)
    (hs : SL w (.slice A n c) l.length 1 (bv l)) (hp : 0 < l.length → ∀ k, (Value.slice A n c).ownBlock = some k → k ≠ p) (hl : l.length ≤ 1024) (hroom : (B.l.length : Int) < B.room) (hlast : B.last < 1000000000000) :
    Calls Tryz.prog 123 #[.pointer (some ⟨p, 0, none⟩), gv id fr to (.slice A n c)] w
      (BagTo w p ⟨B.room, B.last + 1, B.l ++ [⟨B.last + 1, fr, to, l⟩]⟩ F (.tuple #[i64 (B.last + 1), i64 0])) := by
  have hroomc := room_any p B F
  have hcop := copied_any id fr to A n c l
  have hB := h
  obtain ⟨gs, vs, hr, hF⟩ := h
  obtain ⟨c0, c1, c2, f0⟩ := hr.cells
  obtain ⟨b1, b2⟩ := hr.fits
  obtain ⟨b3, b4⟩ := hr.lasts
  have i1 : Old p w := ⟨hr.plt⟩
  have f1 := f0 1
  have f2 := f0 2
  clear f0
  obtain ⟨A0, cap0, rfl⟩ := own_shape hr.own
  have hl' : l.length ≤ 140737488351232 := by omega
  have hne : ((B.room - B.l.length : Int) == 0) = false := by simp; omega
  go_enter Tryz.func123, Tryz.ntmps123
  go_wp2_with fail
  refine (hroomc _ (hB.grow (by repeat (with_reducible first | exact Chg.refl _ _ | refine chg_m ?_ _ | refine chg_g ?_ _ | refine chg_alloc ?_ _ | refine chg_drew ?_ | refine chg_drewN ?_ _ | refine chg_set ?_ _ _ _)))).mono ?_
  rintro e w' ⟨rfl, g1, rfl⟩
  go_wp2_with fail
  refine (hcop _ (hs.chg' (F := fun k => k = p) (by repeat (with_reducible first | exact Chg.refl _ _ | refine chg_m ?_ _ | refine chg_g ?_ _ | refine chg_alloc ?_ _ | refine chg_drew ?_ | refine chg_drewN ?_ _ | refine chg_set ?_ _ _ _)) hp) hl').mono ?_
  rintro e w' ⟨A2, c2', rfl, ho, g2, rfl⟩
  go_wp2_with fail
  have hownW : ∀ W', Chg (fun k => k = p) w W' → W'.ownsRow 0 110 4 (.slice A0 B.l.length cap0) B.l.length (flat B.l vs) := fun W' hc => own_chg hr.own hc (own_ne hr.own hr.blk (by decide))
  obtain ⟨i0, hi, hz0, hz1, hz2⟩ := info_parts info35
  generalize hW : ((((g2.w.setCell ⟨w.heap.size, 0, none⟩ (i64 id)).setCell ⟨w.heap.size, 1, none⟩ (i64 fr)).setCell ⟨w.heap.size, 2, none⟩ (i64 to)).setCell ⟨w.heap.size, 3, none⟩ (.slice A2 l.length c2')).setCell ⟨w.heap.size, 0, none⟩ (i64 (B.last + 1)) = W
  have hC : Chg (fun k => k = p) w W := by
    rw [← hW]
    repeat (with_reducible first | exact Chg.refl _ _ | refine chg_m ?_ _ | refine chg_g ?_ _ | refine chg_alloc ?_ _ | refine chg_drew ?_ | refine chg_drewN ?_ _ | refine chg_set ?_ _ _ _)
  have o0 : W.cell? ⟨w.heap.size, 0, none⟩ = some (i64 (B.last + 1)) := by rw [← hW]; simp [go_sem]
  have o1 : W.cell? ⟨w.heap.size, 1, none⟩ = some (i64 fr) := by rw [← hW]; simp [go_sem]
  have o2 : W.cell? ⟨w.heap.size, 2, none⟩ = some (i64 to) := by rw [← hW]; simp [go_sem]
  have o3 : W.cell? ⟨w.heap.size, 3, none⟩ = some (.slice A2 l.length c2') := by rw [← hW]; simp [go_sem]
  have p2 : W.cell? ⟨p, 2, none⟩ = some (.slice A0 B.l.length cap0) := by rw [← hW]; simp [go_sem, c2]
  have q2 : W.frozen? ⟨p, 2, none⟩ = false := by rw [← hW]; simp [go_sem, f2]
  have hpn : ¬ p = w.heap.size := by have := hr.plt; omega
  have hBlk : W.heap[p]? = some (.cells #[i64 B.room, i64 (B.last + 1), .slice A0 B.l.length cap0] 67 (0, 0)) := by
    have e1 : g1.w.heap[p]? = some (.cells #[i64 B.room, i64 B.last, .slice A0 B.l.length cap0] 67 (0, 0)) := by rw [Muts.heap_eq, heap_alloc_eq]; exact hr.blk
    have e2 := heap_setCell_same _ p 1 _ _ (i64 (B.last + 1)) e1
    have e3 : g2.w.heap[p]? = _ := (Muts.heap_eq g2 p).trans e2
    rw [← hW]
    simp only [heap_set_far _ _ _ _ hpn]
    exact e3
  have hnew : Own1 W w.heap.size (.slice A2 l.length c2') l := by
    rw [← hW]
    exact own_up ho (by repeat (with_reducible first | exact Chg.refl _ _ | refine chg_m ?_ _ | refine chg_g ?_ _ | refine chg_alloc ?_ _ | refine chg_drew ?_ | refine chg_drewN ?_ _ | refine chg_set ?_ _ _ _))
  clear hW ho hpn
  have hown := hownW W hC
  have hlt0 := hC.size
  have i3 : Old p W := ⟨Nat.lt_of_lt_of_le hr.plt hlt0⟩
  have i4 : Old w.heap.size W := ⟨block_lt_of_cell o0⟩
  have hnp := own_ne hr.own hr.blk (by decide)
  clear hownW hcop hroomc hB hs g1 g2
  go_region_law (refine step_append_lies _ rfl (.tmp 27) (.tmp 29) 58 rfl 0 110 i0 _ 4 48 Tryz.underlying58 hi hz0 hz1 hz2 rfl (by decide) (.slice A0 B.l.length cap0) B.l.length (flat B.l vs) rfl (World.ownsRow.alloc (World.ownsRow.drew hown) _) ⟨_, 0, none⟩ 1 1 [i64 (B.last + 1), i64 fr, i64 to, .slice A2 l.length c2'] rfl rfl (World.news_of_block (cs := #[i64 (B.last + 1), i64 fr, i64 to, .slice A2 l.length c2']) (heap_alloc_new _ _)) (by intro u hu; simp at hu; rcases hu with rfl | rfl | rfl | rfl <;> rfl) (by omega) (by simp only [maxLen]; omega) (by omega) (by omega) _ rfl ?_; intro g cap w1 hown1 hgrow hat hlt; have x1 : w1.cell? ⟨p, 2, none⟩ = some (.slice A0 B.l.length cap0) := (hgrow.cell_far ⟨p, 2, none⟩ (Old.lt (b := p)) (fun e => hnp p e.symm rfl)).trans (by simp [go_sem, p2]); have x2 : w1.frozen? ⟨p, 2, none⟩ = false := (hgrow.frozen_far ⟨p, 2, none⟩ (Old.lt (b := p)) (fun e => hnp p e.symm rfl)).trans (by simp [go_sem, q2]))
  all_goals
    have y0 : w1.cell? ⟨w.heap.size, 0, none⟩ = some (i64 (B.last + 1)) := (hgrow.cell_far ⟨w.heap.size, 0, none⟩ (Old.lt (b := w.heap.size)) (fun e => by have := (hr.own.lt _ e.symm).2; simp at this)).trans (by simp [go_sem, o0])
    have HW := put_end hr hF hC hBlk hnew (by repeat (with_reducible first | exact Chg.refl _ _ | refine chg_m ?_ _ | refine chg_g ?_ _ | refine chg_alloc ?_ _ | refine chg_drew ?_ | refine chg_drewN ?_ _ | refine chg_set ?_ _ _ _)) hgrow hown1 hat hroom hlast hl
    clear hgrow hown1 hat
    go_wp2
    go_ret2
    exact ⟨rfl, HW⟩
end Go.Proofs.YteemkceceaabkaaGreat
/- out: a datagram is taken off its place. -/
namespace Go.Proofs.YteemkceceaabkaaGreat
open Go.RowKit Go.Ear
set_option maxHeartbeats 1000000

theorem heap_setCells_row {g : Nat} {t : TypeId} : ∀ (vs : List Value) (o : Nat) (w : World) (cs : Array Value), w.heap[g]? = some (.cells cs t (0, 0)) → o + vs.length ≤ cs.size →
    ∃ cs', (w.setCells g o vs).heap[g]? = some (.cells cs' t (0, 0)) ∧ cs'.size = cs.size ∧ cs'.toList.take (o + vs.length) = cs.toList.take o ++ vs
  | [], o, w, cs, h, _ => ⟨cs, h, rfl, by simp⟩
  | v :: r, o, w, cs, h, hl => by
    simp only [List.length_cons] at hl
    have h1 := heap_setCell_same w g o cs t v h
    obtain ⟨cs', e1, e2, e3⟩ := heap_setCells_row r (o + 1) _ _ h1 (by simp; omega)
    refine ⟨cs', e1, by simpa using e2, ?_⟩
    have e4 : o + (v :: r).length = o + 1 + r.length := by simp; omega
    rw [e4, e3]
    have e5 : (cs.setIfInBounds o v).toList.take (o + 1) = cs.toList.take o ++ [v] := by
      rw [Array.toList_setIfInBounds, List.take_set, List.take_succ_eq_append_getElem (by simp; omega)]
      rw [List.set_append_right _ _ (by simp; omega)]
      simp [List.length_take]
      have : min o cs.size = o := by omega
      simp [this]
    rw [e5]
    simp
theorem own_setCells {w : World} {base : Nat} {e : TypeId} {sz n m q g cap o : Nat} {xs vs : List Value} (h : w.ownsRow base e sz (.slice (some ⟨g, 0, none⟩) n cap) n xs) (ho : o = m * sz) (hm : m ≤ n) (hv : vs.length = q * sz) (hq : m + q ≤ cap) :
    (w.setCells g o vs).ownsRow base e sz (.slice (some ⟨g, 0, none⟩) (m + q) cap) (m + q) (xs.take o ++ vs) := by
  obtain ⟨hl, h2⟩ := h
  rcases h2 with ⟨h', _⟩ | ⟨g', cap', cur, h', hb, hg, hnc, hcm, hcs, htake⟩
  · simp at h'
  · simp only [Value.slice.injEq, Option.some.injEq, Addr.mk.injEq, and_true, true_and] at h'
    obtain ⟨rfl, rfl⟩ := h'
    have hle : o + vs.length ≤ cur.size := by
      rw [ho, hv, hcs, ← Nat.add_mul]
      exact Nat.mul_le_mul_right sz hq
    have hon : o ≤ n * sz := by rw [ho]; exact Nat.mul_le_mul_right sz hm
    obtain ⟨cs', e1, e2, e3⟩ := heap_setCells_row vs o w cur hg hle
    have e4 : (m + q) * sz = o + vs.length := by rw [Nat.add_mul, ho, hv]
    have e5 : cur.toList.take o = xs.take o := by rw [← htake, List.take_take, Nat.min_eq_left hon]
    refine ⟨by rw [List.length_append, List.length_take, hl, Nat.min_eq_left hon, e4], .inr ⟨g, cap, cs', rfl, hb, e1, hq, hcm, by rw [e2, hcs], by rw [e4, e3, e5]⟩⟩
theorem chg_setCells {F : Nat → Prop} {a b : World} (h : Chg F a b) (g o : Nat) (vs : List Value) (hm : F g ∨ a.heap.size ≤ g) : Chg F a (b.setCells g o vs) := by
  induction vs generalizing o b with
  | nil => exact h
  | cons v r ih =>
    have : May g F a := ⟨hm⟩
    exact ih (chg_set h g o v) (o + 1)

theorem hcells_len (l : List Gm) (vs : List Value) (h : vs.length = l.length) : (flat l vs).length = l.length * 4 := by
  unfold flat
  induction l generalizing vs with
  | nil => simp
  | cons g l ih =>
    match vs, h with
    | v :: vs, h => simp only [List.zip_cons_cons, List.flatMap_cons, List.length_append, ih vs (by simpa using h)]; simp [hcells]; omega
theorem flat_split (l : List Gm) (vs : List Value) (i : Nat) (g : Gm) (v : Value) (h : vs.length = l.length) (hg : l[i]? = some g) (hv : vs[i]? = some v) :
    flat l vs = flat (l.take i) (vs.take i) ++ (hcells (g, v) ++ flat (l.drop (i + 1)) (vs.drop (i + 1))) := by
  induction l generalizing vs i with
  | nil => simp at hg
  | cons x l ih =>
    match vs, h with
    | y :: vs, h =>
      cases i with
      | zero => simp at hg hv; subst hg hv; simp [flat]
      | succ i =>
        have := ih vs i (by simpa using h) (by simpa using hg) (by simpa using hv)
        simp only [flat, List.zip_cons_cons, List.flatMap_cons, List.take_succ_cons, List.drop_succ_cons] at this ⊢
        rw [this]
        simp
end Go.Proofs.YteemkceceaabkaaGreat
