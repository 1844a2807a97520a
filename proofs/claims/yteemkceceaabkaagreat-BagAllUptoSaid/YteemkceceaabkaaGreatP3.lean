/- The document's bag: At, Send. -/
import Derived.Test.YteemkceceaabkaaGreatP2
namespace Go.Proofs.YteemkceceaabkaaGreat
open Go.RowKit Go.Ear
set_option maxHeartbeats 1000000
set_option maxRecDepth 40000

def RefTo (w : World) (lb off : Nat) (cs : Array Value) (t : TypeId) (B' : BagS) (F : Nat → Prop) (v : Value) : Ending → World → Prop := fun e w' =>
  e = .returned v ∧ ∃ (m : Muts (fun k => k = lb ∨ F k) w) (gs : Value) (F' : Nat → Prop), w' = m.w ∧ IsRef m.w lb off ((cs.setIfInBounds off gs).setIfInBounds (off + 1) (i64 B'.last)) t B' F' ∧ ∀ k, F' k → F k ∨ w.heap.size ≤ k
theorem set_same {cs : Array Value} {i : Nat} {v : Value} (h : cs[i]? = some v) : cs.setIfInBounds i v = cs := by
  apply Array.ext_getElem?
  intro k
  rw [Array.getElem?_setIfInBounds]
  split
  · rename_i e
    subst e
    have := (Array.getElem?_eq_some_iff.1 h).1
    simp [this]
    exact (Array.getElem?_eq_some_iff.1 h).2.symm
  · rfl
theorem RefTo.same {w w' : World} {lb off : Nat} {cs : Array Value} {t : TypeId} {B : BagS} {F : Nat → Prop} {v : Value} {e : Ending} (h : Gr v w e w') (hB : IsRef w lb off cs t B F) : RefTo w lb off cs t B F v e w' := by
  obtain ⟨rfl, g, rfl⟩ := h
  have hB' := hB.grow g.h
  obtain ⟨gs, vs, hr, hF⟩ := hB'
  refine ⟨rfl, ⟨g.w, g.h.mono (fun _ _ e => e.elim)⟩, gs, F, rfl, ⟨gs, vs, ?_, hF⟩, fun _ h => .inl h⟩
  rw [set_same hr.c0, set_same hr.c1]
  exact hr

theorem atR_bad (lb off : Nat) (cs : Array Value) (t : TypeId) (B : BagS) (F : Nat → Prop) (i : Int) (w : World) (hB : IsRef w lb off cs t B F) (h : i < 0 ∨ (B.l.length : Int) ≤ i) :
    Calls Tryz.prog 83 #[.pointer (some ⟨lb, off, none⟩), i64 i] w (Gr (.tuple #[gv 0 0 0 (.slice none 0 0), i64 91]) w) := by
  have hhas := fun W h => has_any lb off cs t B F i W h
  rw [show decide (0 ≤ i ∧ i < (B.l.length : Int)) = false from by simp; omega] at hhas
  go_enter Tryz.func83, Tryz.ntmps83
  go_wp2_with (go_at_call 127; refine (hhas _ (hB.grow (by repeat (with_reducible first | exact Chg.refl _ _ | refine chg_m ?_ _ | refine chg_g ?_ _ | refine chg_alloc ?_ _ | refine chg_drew ?_ | refine chg_drewN ?_ _ | refine chg_set ?_ _ _ _)))).mono ?_; rintro e w' ⟨rfl, g1, rfl⟩)
  exact bodyPost_ret (v := .tuple #[gv 0 0 0 (.slice none 0 0), i64 91]) (by simp [results, Tryz.results83, go_sem]) rfl (gr_mk rfl (by repeat (with_reducible first | exact Chg.refl _ _ | refine chg_m ?_ _ | refine chg_g ?_ _ | refine chg_alloc ?_ _ | refine chg_drew ?_ | refine chg_drewN ?_ _ | refine chg_set ?_ _ _ _)))
theorem atR_good (lb off : Nat) (cs : Array Value) (t : TypeId) (i : Nat) (B : BagS) (F : Nat → Prop) (w : World) (hB : IsRef w lb off cs t B F) (x : Gm) (hx : B.l[i]? = some x) :
    Calls Tryz.prog 83 #[.pointer (some ⟨lb, off, none⟩), i64 i] w fun e w' => ∃ A c, e = .returned (.tuple #[gv x.id x.fr x.to (.slice A x.data.length c), i64 0]) ∧ Own1 w' w.heap.size (.slice A x.data.length c) x.data ∧ ∃ g : Grows w, w' = g.w := by
  have hi : i < B.l.length := (List.getElem?_eq_some_iff.1 hx).1
  have hhas := fun W h => has_any lb off cs t B F (i : Int) W h
  rw [show decide (0 ≤ (i : Int) ∧ (i : Int) < (B.l.length : Int)) = true from by simp; omega] at hhas
  have hB0 := hB
  obtain ⟨gs, vs, hr, hF⟩ := hB
  have hv : vs[i]? = some (vs[i]'(by rw [hr.len]; exact hi)) := List.getElem?_eq_getElem _
  generalize vs[i]'(by rw [hr.len]; exact hi) = v at hv
  have hd := hr.data i x v hx hv
  have hsm := hr.small x (List.mem_of_getElem? hx)
  obtain ⟨A, c, rfl⟩ := own_shape hd
  have hcop := copiedR_any x.id x.fr x.to A c x.data
  obtain ⟨c0, c1, c2, _, hlb⟩ := hr.cells
  have i1 : Old lb w := ⟨hlb⟩
  have hown := hr.own
  obtain ⟨g, cap, rfl, _, hg⟩ := hown.form (by omega)
  have i2 : Old g w := ⟨hg⟩
  obtain ⟨a0, a1, a2, a3⟩ := gram_cells hown hr.len hx hv
  have hs := SL.of_own hd
  have hle : B.l.length ≤ 65536 := by have := hr.fits; omega
  obtain ⟨n, hn⟩ : ∃ n, n = B.l.length := ⟨_, rfl⟩
  rw [← hn] at c0 hi hle
  clear hn hd hr hown hv hx c1 c2
  go_enter Tryz.func83, Tryz.ntmps83
  go_wp2_with (go_at_call 127; refine (hhas _ (hB0.grow (by repeat (with_reducible first | exact Chg.refl _ _ | refine chg_m ?_ _ | refine chg_g ?_ _ | refine chg_alloc ?_ _ | refine chg_drew ?_ | refine chg_drewN ?_ _ | refine chg_set ?_ _ _ _)))).mono ?_; rintro e w' ⟨rfl, g1, rfl⟩)
  refine (hcop _ (hs.grow (by repeat (with_reducible first | exact Chg.refl _ _ | refine chg_m ?_ _ | refine chg_g ?_ _ | refine chg_alloc ?_ _ | refine chg_drew ?_ | refine chg_drewN ?_ _ | refine chg_set ?_ _ _ _))) (by omega)).mono ?_
  rintro e w' ⟨A', c', rfl, ho, g3, rfl⟩
  have HX : ∀ Wf, Chg Noth w Wf → Chg (fun k => k < (g1.w).heap.size) (g1.join g3).w Wf → Own1 Wf w.heap.size (.slice A' x.data.length c') x.data ∧ ∃ g : Grows w, Wf = g.w := fun Wf h0 hc => ⟨own_up ho hc, muts_ex h0⟩
  clear ho hcop
  go_wp2_with fail
  exact bodyPost_ret (v := .tuple #[gv x.id x.fr x.to (.slice A' x.data.length c'), i64 0]) (by simp [results, Tryz.results83, go_sem]) rfl ⟨A', c', rfl, HX _ (by repeat (with_reducible first | exact Chg.refl _ _ | refine chg_m ?_ _ | refine chg_g ?_ _ | refine chg_alloc ?_ _ | refine chg_drew ?_ | refine chg_drewN ?_ _ | refine chg_set ?_ _ _ _)) (by repeat (with_reducible first | exact Chg.refl _ _ | refine chg_m ?_ _ | refine chg_g ?_ _ | refine chg_alloc ?_ _ | refine chg_drew ?_ | refine chg_drewN ?_ _ | refine chg_set ?_ _ _ _))⟩

theorem sendR_end {w W W' w1 : World} {lb off g cap : Nat} {cs : Array Value} {t : TypeId} {B : BagS} {F : Nat → Prop} {gs v : Value} {vs : List Value} {fr to : Int} {l : List UInt8} (hr : RefRep w lb off cs t B gs vs) (hF : ∀ k, F k ↔ footR gs vs k)
    (hC : Chg (fun k => k = lb) w W) (hBlk : W.heap[lb]? = some (.cells (cs.setIfInBounds (off + 1) (i64 (B.last + 1))) t (0, 0))) (hnew : Own1 W' w.heap.size v l) (hC2 : Chg Noth W W') (hg : W'.grownBy w1 gs.ownBlock)
    (hown : w1.ownsRow 0 110 4 (.slice (some ⟨g, 0, none⟩) (B.l.length + 1) cap) (B.l.length + 1) (flat B.l vs ++ [i64 (B.last + 1), i64 fr, i64 to, v])) (hat : gs.ownBlock = some g ∨ g = W'.heap.size)
    (hroom : (B.l.length : Int) < B.room) (hlast : B.last < 1000000000000) (hl : l.length ≤ 1024) :
    ∃ (m : Muts (fun k => k = lb ∨ F k) w) (gs' : Value) (F' : Nat → Prop), w1.setCell ⟨lb, off, none⟩ (.slice (some ⟨g, 0, none⟩) (B.l.length + 1) cap) = m.w ∧ IsRef m.w lb off ((cs.setIfInBounds off gs').setIfInBounds (off + 1) (i64 (B.last + 1))) t ⟨B.room, B.last + 1, B.l ++ [⟨B.last + 1, fr, to, l⟩]⟩ F' ∧ ∀ k, F' k → F k ∨ w.heap.size ≤ k := by
  have hplt := (Array.getElem?_eq_some_iff.1 hr.blk).1
  have hsz1 := hC.size
  have hsz2 := hC2.size
  have hsz3 := hg.size
  have hgsp : ∀ k, gs.ownBlock = some k → k ≠ lb := fun k hk => hr.ne_lb (.inl hk)
  have hown0 : W'.ownsRow 0 110 4 gs B.l.length (flat B.l vs) := own_chg (own_chg hr.own hC hgsp) hC2 fun _ _ e => e
  have hgp : g ≠ lb := by
    rcases hat with h | h
    · exact hgsp g h
    · omega
  have hc1 : Chg (fun k => gs.ownBlock = some k) W w1 := (hC2.mono (fun _ _ e => e.elim)).trans (Chg.of_grown hg) (fun _ _ e => e)
  have iM : May lb (fun k => k = lb) w1 := ⟨.inl rfl⟩
  have hc2 : Chg (fun k => k = lb) w1 (w1.setCell ⟨lb, off, none⟩ (.slice (some ⟨g, 0, none⟩) (B.l.length + 1) cap)) := chg_set (Chg.refl _ _) lb off _
  have hcA : Chg (fun k => k = lb ∨ gs.ownBlock = some k) w (w1.setCell ⟨lb, off, none⟩ (.slice (some ⟨g, 0, none⟩) (B.l.length + 1) cap)) :=
    ((hC.mono (fun _ _ e => Or.inl e)).trans hc1 (fun _ _ e => Or.inr e)).trans hc2 (fun _ _ e => Or.inl e)
  have hdata0 : ∀ (i : Nat) (x : Gm) (u : Value), B.l[i]? = some x → vs[i]? = some u → ∀ k, u.ownBlock = some k → ¬ (k = lb ∨ gs.ownBlock = some k) := by
    intro i x u hx hu k hk
    rintro (e | e)
    · exact hr.ne_lb (.inr ⟨u, List.mem_of_getElem? hu, hk⟩) e
    · exact own_own (hr.data i x u hx hu) hr.own (by decide) k hk e
  have hvnew : ∀ k, v.ownBlock = some k → w.heap.size ≤ k ∧ k ≠ lb ∧ gs.ownBlock ≠ some k := by
    intro k hk
    have hge := (hnew.lt k hk).1
    exact ⟨hge, by omega, fun e => own_own hnew hown0 (by decide) k hk e⟩
  have hblk1 : w1.heap[lb]? = some (.cells (cs.setIfInBounds (off + 1) (i64 (B.last + 1))) t (0, 0)) := by
    rw [hc1.block lb (by omega) (fun e => hgsp lb e rfl)]
    exact hBlk
  have hcs : off + 2 < cs.size := (Array.getElem?_eq_some_iff.1 hr.c2).1
  refine ⟨⟨_, hcA.mono fun k hk e => ?_⟩, .slice (some ⟨g, 0, none⟩) (B.l.length + 1) cap, footR (.slice (some ⟨g, 0, none⟩) (B.l.length + 1) cap) (vs ++ [v]), rfl, ⟨_, vs ++ [v], ?_, fun _ => Iff.rfl⟩, ?_⟩
  · exact e.elim Or.inl (fun e => Or.inr ((hF k).2 (Or.inl e)))
  · refine ⟨?_, hr.ne, ?_, ?_, ?_, ?_, ?_, ?_, ?_, ?_, ?_⟩
    · have := heap_setCell_same _ lb off _ _ (.slice (some ⟨g, 0, none⟩) (B.l.length + 1) cap) hblk1
      rw [this]
      congr 2
      exact Array.setIfInBounds_comm _ _ (by omega)
    · rw [Array.getElem?_setIfInBounds_ne (by omega), Array.getElem?_setIfInBounds_self_of_lt (by omega)]
    · rw [Array.getElem?_setIfInBounds_self_of_lt (by simp; omega)]
    · rw [Array.getElem?_setIfInBounds_ne (by omega), Array.getElem?_setIfInBounds_ne (by omega)]
      exact hr.c2
    · simp only [List.length_append, List.length_singleton]
      rw [flat_snoc _ _ _ _ hr.len]
      exact own_chg hown hc2 (fun k hk => by simp [Value.ownBlock] at hk; omega)
    · simp [hr.len]
    · intro i x u hx hu
      have hlen := hr.len
      by_cases hi : i < B.l.length
      · rw [List.getElem?_append_left hi] at hx
        rw [List.getElem?_append_left (by omega)] at hu
        exact own_chg (hr.data i x u hx hu) hcA (hdata0 i x u hx hu)
      · have hi' : i = B.l.length := by
          have := (List.getElem?_eq_some_iff.1 hx).1
          simp at this
          omega
        subst hi'
        rw [List.getElem?_append_right (by omega)] at hx hu
        simp [hlen] at hx hu
        subst hx hu
        exact own_base (own_chg (own_chg hnew (Chg.of_grown hg) (fun k hk => (hvnew k hk).2.2)) hc2 (fun k hk => (hvnew k hk).2.1)) (Nat.zero_le _)
    · have := hr.fits
      simp
      omega
    · have := hr.lasts
      simp
      omega
    · intro x hx
      simp at hx
      rcases hx with hx | rfl
      · exact hr.small x hx
      · exact hl
  · rintro k (h | ⟨u, hu, hk⟩)
    · simp [Value.ownBlock] at h
      subst h
      rcases hat with h | h
      · exact .inl ((hF g).2 (.inl h))
      · exact .inr (by omega)
    · simp at hu
      rcases hu with hu | rfl
      · exact .inl ((hF k).2 (.inr ⟨u, hu, hk⟩))
      · exact .inr (hvnew k hk).1

theorem sendR_room (lb off : Nat) (cs : Array Value) (t : TypeId) (B : BagS) (F : Nat → Prop) (fr to : Int) (A : Option Addr) (c : Nat) (l : List UInt8) (w : World) (h : IsRef w lb off cs t B F)
    (hs : SL w (.slice A l.length c) l.length 1 (bv l)) (hp : 0 < l.length → ∀ k, (Value.slice A l.length c).ownBlock = some k → k ≠ lb) (hl : l.length ≤ 1024) (hroom : (B.l.length : Int) < B.room) (hlast : B.last < 1000000000000) :
    Calls Tryz.prog 81 #[.pointer (some ⟨lb, off, none⟩), i64 fr, i64 to, .slice A l.length c] w
      (RefTo w lb off cs t ⟨B.room, B.last + 1, B.l ++ [⟨B.last + 1, fr, to, l⟩]⟩ F (.tuple #[i64 (B.last + 1), i64 0])) := by
  have hB := h
  obtain ⟨gs, vs, hr, hF⟩ := h
  obtain ⟨c0, c1, c2, f0, hlb⟩ := hr.cells
  obtain ⟨b1, b2⟩ := hr.fits
  obtain ⟨b3, b4⟩ := hr.lasts
  have i1 : Old lb w := ⟨hlb⟩
  have f1 := f0 off
  have f2 := f0 (off + 1)
  clear f0
  obtain ⟨A0, cap0, rfl⟩ := own_shape hr.own
  have hcop := fun id => copiedR_any id fr to A c l
  obtain ⟨n, hn⟩ : ∃ n, n = B.l.length := ⟨_, rfl⟩
  rw [← hn] at c0 hroom b1
  have HN := Lib.hid hn
  clear hn
  have k1 : HasCell w lb off := ⟨by rw [c0]; rfl⟩
  have k2 : HasCell w lb (off + 1) := ⟨by rw [c1]; rfl⟩
  go_enter Tryz.func81, Tryz.ntmps81
  go_wp2
  refine wp_region_grows (by kernel_rfl) (by kernel_rfl) ?_
  repeat (go_big_quiet_step (fail))
  refine wpQuiet_nil ?_
  rintro _ ⟨g1, rfl⟩
  go_wp2_with fail
  generalize hW : g1.w.setCell ⟨lb, off + 1, none⟩ (i64 (B.last + 1)) = W
  have hC : Chg (fun k => k = lb) w W := by
    rw [← hW]
    have iM : May lb (fun k => k = lb) w := ⟨.inl rfl⟩
    repeat (with_reducible first | exact Chg.refl _ _ | refine chg_m ?_ _ | refine chg_g ?_ _ | refine chg_alloc ?_ _ | refine chg_drew ?_ | refine chg_drewN ?_ _ | refine chg_set ?_ _ _ _)
  have p0 : W.cell? ⟨lb, off, none⟩ = some (.slice A0 n cap0) := by rw [← hW]; simp [go_sem, c0]
  have p1 : W.cell? ⟨lb, off + 1, none⟩ = some (i64 (B.last + 1)) := by rw [← hW]; simp [go_sem]
  have q0 : W.frozen? ⟨lb, off, none⟩ = false := by rw [← hW]; simp [go_sem, f1]
  have hBlk : W.heap[lb]? = some (.cells (cs.setIfInBounds (off + 1) (i64 (B.last + 1))) t (0, 0)) := by
    rw [← hW]
    exact heap_setCell_same _ lb (off + 1) _ _ _ ((g1.h.block lb hlb fun e => e).trans hr.blk)
  have hlW : lb < W.heap.size := Nat.lt_of_lt_of_le hlb hC.size
  have i3 : Old lb W := ⟨hlW⟩
  have k3 : HasCell W lb off := ⟨by rw [p0]; rfl⟩
  have hown : W.ownsRow 0 110 4 (.slice A0 n cap0) n (flat B.l vs) := by
    have := own_chg hr.own hC fun k hk => hr.ne_lb (.inl hk)
    rwa [← HN.out] at this
  have hsW : SL W (.slice A l.length c) l.length 1 (bv l) := hs.chg' hC hp
  have hnp : ∀ k, (Value.slice A0 n cap0).ownBlock = some k → k ≠ lb := fun k hk => own_ne hr.own hr.blk (Ne.symm hr.ne.1) k (by rw [← HN.out]; exact hk)
  obtain ⟨i0, hi, hz0, hz1, hz2⟩ := info_parts info35
  have hn6 : n ≤ 65536 := by omega
  have HR := Lib.hid hr
  have HF := Lib.hid hF
  clear hW g1 c0 c1 c2 f1 f2 hs hB k1 k2 hr hF
  go_region_law (first
    | (go_simp; go_at_call 126; refine (hcop _ _ (hsW.grow (by repeat (with_reducible first | exact Chg.refl _ _ | refine chg_m ?_ _ | refine chg_g ?_ _ | refine chg_alloc ?_ _ | refine chg_drew ?_ | refine chg_drewN ?_ _ | refine chg_set ?_ _ _ _))) (by omega)).mono ?_; rintro e w' ⟨A2, c2', rfl, ho, g3, rfl⟩)
    | (refine step_append_lies _ rfl (.tmp 34) (.tmp 44) 58 rfl 0 110 i0 _ 4 48 Tryz.underlying58 hi hz0 hz1 hz2 rfl (by decide) (.slice A0 n cap0) n (flat B.l vs) rfl (own_chg hown (F := Noth) (by repeat (with_reducible first | exact Chg.refl _ _ | refine chg_m ?_ _ | refine chg_g ?_ _ | refine chg_alloc ?_ _ | refine chg_drew ?_ | refine chg_drewN ?_ _ | refine chg_set ?_ _ _ _)) (fun _ _ e => e)) ⟨_, 0, none⟩ 1 1 [i64 (B.last + 1), i64 fr, i64 to, .slice A2 l.length c2'] rfl rfl (World.news_of_block (cs := #[i64 (B.last + 1), i64 fr, i64 to, .slice A2 l.length c2']) (heap_alloc_hs _ _ _)) (by intro u hu; simp at hu; rcases hu with rfl | rfl | rfl | rfl <;> rfl) (by omega) (by simp only [maxLen]; omega) (by omega) (Nat.zero_le _) _ rfl ?_; intro ge cape w1 hown1 hgrow hat hlt1; have x0 : w1.cell? ⟨lb, off, none⟩ = some (.slice A0 n cap0) := (hgrow.cell_far ⟨lb, off, none⟩ (Old.lt (b := lb)) (fun e => hnp _ e.symm rfl)).trans (by simp [go_sem, p0]); have x1 : w1.cell? ⟨lb, off + 1, none⟩ = some (i64 (B.last + 1)) := (hgrow.cell_far ⟨lb, off + 1, none⟩ (Old.lt (b := lb)) (fun e => hnp _ e.symm rfl)).trans (by simp [go_sem, p1]); have x2 : w1.frozen? ⟨lb, off, none⟩ = false := (hgrow.frozen_far ⟨lb, off, none⟩ (Old.lt (b := lb)) (fun e => hnp _ e.symm rfl)).trans (by simp [go_sem, q0])))
  all_goals
    have hnew := own_base (base' := w.heap.size) ho (by have := hC.size; simp; omega)
    rw [HN.out] at hgrow hown1 hat
    have HW := sendR_end HR.out HF.out hC hBlk (own_chg (F := Noth) hnew (by repeat (with_reducible first | exact Chg.refl _ _ | refine chg_m ?_ _ | refine chg_g ?_ _ | refine chg_alloc ?_ _ | refine chg_drew ?_ | refine chg_drewN ?_ _ | refine chg_set ?_ _ _ _)) fun _ _ e => e) (by repeat (with_reducible first | exact Chg.refl _ _ | refine chg_m ?_ _ | refine chg_g ?_ _ | refine chg_alloc ?_ _ | refine chg_drew ?_ | refine chg_drewN ?_ _ | refine chg_set ?_ _ _ _)) hgrow hown1 hat (by have := HN.out; omega) hlast hl
    rw [← HN.out] at HW
    have HX := Lib.hid HW
    clear HW hgrow hown1 hat hnew ho
    go_wp2
    go_ret2
    exact ⟨rfl, HX.out⟩

theorem sendR_any (lb off : Nat) (cs : Array Value) (t : TypeId) (B : BagS) (F : Nat → Prop) (fr to : Int) (A : Option Addr) (c : Nat) (l : List UInt8) (w : World) (h : IsRef w lb off cs t B F)
    (hs : SL w (.slice A l.length c) l.length 1 (bv l)) (hp : 0 < l.length → ∀ k, (Value.slice A l.length c).ownBlock = some k → k ≠ lb) (hlast : B.last < 1000000000000) :
    Calls Tryz.prog 81 #[.pointer (some ⟨lb, off, none⟩), i64 fr, i64 to, .slice A l.length c] w
      (RefTo w lb off cs t (sendS B fr to l).1 F (.tuple #[i64 (sendS B fr to l).2.1, i64 (sendS B fr to l).2.2])) := by
  by_cases h1 : 1024 < l.length
  · simp only [sendS, if_pos h1]
    have h1' : decide ((1024 : Int) < (l.length : Int)) = true := by simp; omega
    go_enter Tryz.func81, Tryz.ntmps81
    go_wp2
    exact bodyPost_ret (v := .tuple #[i64 0, i64 2]) (by simp [results, Tryz.results81, go_sem]) rfl (RefTo.same (gr_same rfl) h)
  · simp only [sendS, if_neg h1, putS]
    have h1' : decide ((1024 : Int) < (l.length : Int)) = false := by simp; omega
    by_cases hroom : (B.l.length : Int) = B.room
    · simp only [if_pos hroom]
      have hB := h
      obtain ⟨gs, vs, hr, hF⟩ := h
      obtain ⟨c0, c1, c2, _, hlb⟩ := hr.cells
      have i1 : Old lb w := ⟨hlb⟩
      obtain ⟨A0, cap0, rfl⟩ := own_shape hr.own
      have hge : ¬ (B.l.length : Int) < B.room := by omega
      clear hr hroom c1
      go_enter Tryz.func81, Tryz.ntmps81
      go_wp2
      refine wp_region_grows (by kernel_rfl) (by kernel_rfl) ?_
      repeat (go_big_quiet_step (fail))
      refine wpQuiet_nil ?_
      rintro _ ⟨g1, rfl⟩
      go_wp2
      exact bodyPost_ret (v := .tuple #[i64 0, i64 90]) (by simp [results, Tryz.results81, go_sem]) rfl (RefTo.same (gr_mk rfl (by repeat (with_reducible first | exact Chg.refl _ _ | refine chg_m ?_ _ | refine chg_g ?_ _ | refine chg_alloc ?_ _ | refine chg_drew ?_ | refine chg_drewN ?_ _ | refine chg_set ?_ _ _ _))) hB)
    · simp only [if_neg hroom]
      have : (B.l.length : Int) < B.room := by
        obtain ⟨gs, vs, hr, _⟩ := h
        have := hr.fits
        omega
      exact sendR_room lb off cs t B F fr to A c l w h hs hp (by omega) this hlast
end Go.Proofs.YteemkceceaabkaaGreat
