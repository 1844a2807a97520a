/- All: the datagrams as they are now, in a list of its own. -/
import Derived.Test.YteemkceceaabkaaGreatO
import Derived.Deep.RegionLaw
import Derived.OwnWalk
namespace Go.Proofs.YteemkceceaabkaaGreat
open Go.RowKit Go.Ear
set_option maxHeartbeats 1000000
set_option maxRecDepth 40000

/-- A list of datagrams in memory of its own, from block base on. -/
structure GL (w : World) (base : Nat) (gs : Value) (vs : List Value) (l : List Gm) : Prop where
  own : w.ownsRow base 110 4 gs l.length (flat l vs)
  len : vs.length = l.length
  data : ∀ (i : Nat) (g : Gm) (v : Value), l[i]? = some g → vs[i]? = some v → w.ownsRow base 5 1 v g.data.length (bv g.data)

theorem GL.chg {w w' : World} {base : Nat} {gs : Value} {vs : List Value} {l : List Gm} {G : Nat → Prop} (h : GL w base gs vs l) (hc : Chg G w w') (hG : ∀ k, base ≤ k → gs.ownBlock = some k ∨ (∃ v ∈ vs, v.ownBlock = some k) → ¬ G k) : GL w' base gs vs l :=
  ⟨own_chg h.own hc fun k hk => hG k (h.own.lt k hk).1 (.inl hk), h.len, fun i g v hg hv => own_chg (h.data i g v hg hv) hc fun k hk => hG k ((h.data i g v hg hv).lt k hk).1 (.inr ⟨v, List.mem_of_getElem? hv, hk⟩)⟩
theorem GL.nil (w : World) (base : Nat) : GL w base (.slice none 0 0) [] [] := ⟨World.ownsRow_nil _ _ _ _, rfl, fun i g v h => by simp at h⟩

theorem gl_snoc {W W' w1 : World} {base g cap : Nat} {gs v : Value} {vs : List Value} {l : List Gm} {x : Gm} (h : GL W base gs vs l) (hc : Chg Noth W W') (hg : W'.grownBy w1 gs.ownBlock)
    (hown : w1.ownsRow base 110 4 (.slice (some ⟨g, 0, none⟩) (l.length + 1) cap) (l.length + 1) (flat l vs ++ hcells (x, v))) (hv : W'.ownsRow base 5 1 v x.data.length (bv x.data)) :
    GL w1 base (.slice (some ⟨g, 0, none⟩) (l.length + 1) cap) (vs ++ [v]) (l ++ [x]) := by
  have h' : GL W' base gs vs l := h.chg hc (fun _ _ _ e => e)
  have hc1 : Chg (fun k => gs.ownBlock = some k) W' w1 := Chg.of_grown hg
  refine ⟨by simpa [flat_snoc _ _ _ _ h.len] using hown, by simp [h.len], fun i y u hy hu => ?_⟩
  have hlen := h.len
  by_cases hi : i < l.length
  · rw [List.getElem?_append_left hi] at hy
    rw [List.getElem?_append_left (by omega)] at hu
    have hd := h'.data i y u hy hu
    exact own_chg hd hc1 fun k hk e => own_own hd h'.own (by decide) k hk e
  · have hi' : i = l.length := by
      have := (List.getElem?_eq_some_iff.1 hy).1
      simp at this
      omega
    subst hi'
    rw [List.getElem?_append_right (by omega)] at hy hu
    simp [hlen] at hy hu
    subst hy hu
    exact own_chg hv hc1 fun k hk e => own_own hv h'.own (by decide) k hk e

theorem all_walk (p : Nat) (B : BagS) (F : Nat → Prop) (w : World) (h : IsBag w p B F) :
    Calls Tryz.prog 131 #[.pointer (some ⟨p, 0, none⟩)] w fun e w' => e = .returned (.func (.func 136) #[] #[.pointer (some ⟨w.heap.size, 0, none⟩)]) ∧ ∃ g : Grows w, w' = g.w ∧ ∃ gs vs, GL g.w (w.heap.size + 1) gs vs B.l ∧ g.w.heap[w.heap.size]? = some (.cells #[gs] 58 (0, 0)) := by
  have hB := h
  obtain ⟨gs, vs, hr, hF⟩ := h
  obtain ⟨c0, c1, c2, _⟩ := hr.cells
  obtain ⟨b1, b2⟩ := hr.fits
  have i1 : Old p w := ⟨hr.plt⟩
  obtain ⟨n, hn⟩ : ∃ n, n = B.l.length := ⟨_, rfl⟩
  have HN := Lib.hid hn
  have hown := hr.own
  obtain ⟨A, cap, rfl⟩ := own_shape hown
  rw [← hn] at c2
  clear hn
  go_enter Tryz.func131, Tryz.ntmps131
  go_wp2_with fail
  go_loopw [13] (fun i wr => ∃ (k : Nat) (g : Grows w) (gs' : Value) (vs' : List Value), k ≤ n ∧ i = .int .i64 k ∧ wr = g.w ∧ g.w.heap[w.heap.size]? = some (.cells #[gs'] 58 (0, 0)) ∧ GL g.w (w.heap.size + 1) gs' vs' (B.l.take k)) (fun i _ => n - (intOf i).toNat)
  case atStart => exact ⟨0, ⟨_, chg_alloc (Chg.refl _ _) _⟩, .slice none 0 0, [], Nat.zero_le _, rfl, rfl, heap_alloc_new _ _, by simpa using GL.nil _ _⟩
  case round =>
    obtain ⟨k, g, gs', vs', hk, rfl, rfl, hbox, hgl⟩ := hrel
    have hbl : w.heap.size < g.w.heap.size := (Array.getElem?_eq_some_iff.1 hbox).1
    have i3 : Old w.heap.size g.w := ⟨hbl⟩
    have x0 : g.w.cell? ⟨w.heap.size, 0, none⟩ = some gs' := by rw [cell_of_row _ _ 0 _ _ _ hbox]; rfl
    have x1 : g.w.frozen? ⟨w.heap.size, 0, none⟩ = false := frozen_of_row _ _ 0 _ _ hbox
    by_cases hlt : k < n
    · have hkl : k < B.l.length := by have := HN.out; omega
      obtain ⟨x, hx⟩ : ∃ x, B.l[k]? = some x := ⟨_, List.getElem?_eq_getElem hkl⟩
      have hv : vs[k]? = some (vs[k]'(by rw [hr.len]; exact hkl)) := List.getElem?_eq_getElem _
      generalize vs[k]'(by rw [hr.len]; exact hkl) = v at hv
      have hd := hr.data k x v hx hv
      have hsm := hr.small x (List.mem_of_getElem? hx)
      have hsm' : x.data.length ≤ 140737488351232 := by omega
      obtain ⟨D, dc, rfl⟩ := own_shape hd
      have hcop := copied_any x.id x.fr x.to D x.data.length dc x.data
      obtain ⟨ga, cap', e1, _, hga⟩ := hown.form (by omega)
      cases e1
      have i2 : Old ga w := ⟨hga⟩
      obtain ⟨a0, a1, a2, a3⟩ := gram_cells hown hr.len hx hv
      obtain ⟨A1, cap1, rfl⟩ := own_shape hgl.own
      have hklt : (B.l.take k).length = k := by simp; omega
      rw [hklt] at hgl x0 hbox
      have HKL := Lib.hid hklt
      clear hklt
      have hs := SL.of_own hd
      go_wp2_with fail
      generalize hW : g.w.alloc (.cells #[i64 x.id, i64 x.fr, i64 x.to, .slice D x.data.length dc] 110) = W
      have hsW : SL W (.slice D x.data.length dc) x.data.length 1 (bv x.data) := by rw [← hW]; exact hs.grow (by repeat (with_reducible first | exact Chg.refl _ _ | refine chg_m ?_ _ | refine chg_g ?_ _ | refine chg_alloc ?_ _ | refine chg_drew ?_ | refine chg_drewN ?_ _ | refine chg_set ?_ _ _ _))
      have i5 : Old w.heap.size W := by rw [← hW]; infer_instance
      have i6 : Old g.w.heap.size W := by rw [← hW]; infer_instance
      have z0 : W.cell? ⟨g.w.heap.size, 0, none⟩ = some (i64 x.id) := by rw [← hW]; simp [go_sem]
      have z1 : W.cell? ⟨g.w.heap.size, 1, none⟩ = some (i64 x.fr) := by rw [← hW]; simp [go_sem]
      have z2 : W.cell? ⟨g.w.heap.size, 2, none⟩ = some (i64 x.to) := by rw [← hW]; simp [go_sem]
      have z3 : W.cell? ⟨g.w.heap.size, 3, none⟩ = some (.slice D x.data.length dc) := by rw [← hW]; simp [go_sem]
      have y0 : W.cell? ⟨w.heap.size, 0, none⟩ = some (.slice A1 k cap1) := by rw [← hW]; simp [go_sem, x0]
      have y1 : W.frozen? ⟨w.heap.size, 0, none⟩ = false := by rw [← hW]; simp [go_sem, x1]
      have hglW : GL W (w.heap.size + 1) (.slice A1 k cap1) vs' (B.l.take k) := by rw [← hW]; exact hgl.chg (G := Noth) (by repeat (with_reducible first | exact Chg.refl _ _ | refine chg_m ?_ _ | refine chg_g ?_ _ | refine chg_alloc ?_ _ | refine chg_drew ?_ | refine chg_drewN ?_ _ | refine chg_set ?_ _ _ _)) (fun _ _ _ e => e)
      have hCW : Chg Noth w W := by
        rw [← hW]
        repeat (with_reducible first | exact Chg.refl _ _ | refine chg_m ?_ _ | refine chg_g ?_ _ | refine chg_alloc ?_ _ | refine chg_drew ?_ | refine chg_drewN ?_ _ | refine chg_set ?_ _ _ _)
      have HBX : Hid (W.heap[w.heap.size]? = some (.cells #[.slice A1 k cap1] 58 (0, 0))) := Lib.hid (by rw [← hW]; exact (Below.heap_alloc g.w _ _ hbl).trans hbox)
      have hl3 : k ≤ 65536 := by omega
      clear hW x0 x1 a0 a1 a2 a3 c0 c1 c2 hown hd hs hgl hbox
      obtain ⟨i0, hi0, hz0, hz1, hz2⟩ := info_parts info35
      have hboxW : W.heap[w.heap.size]? = some (.cells #[.slice A1 k cap1] 58 (0, 0)) := HBX.out
      have HBW := Lib.hid hboxW
      clear hboxW
      have hgO : W.ownsRow (w.heap.size + 1) 110 4 (.slice A1 k cap1) k (flat (B.l.take k) vs') := by have := hglW.own; rwa [HKL.out] at this
      have hne1 : ∀ q, (Value.slice A1 k cap1).ownBlock = some q → q ≠ w.heap.size := fun q hq e => by have := (hglW.own.lt q hq).1; omega
      go_region_law (first
        | (go_simp; go_at_call 125; refine (hcop _ (hsW.grow (by repeat (with_reducible first | exact Chg.refl _ _ | refine chg_m ?_ _ | refine chg_g ?_ _ | refine chg_alloc ?_ _ | refine chg_drew ?_ | refine chg_drewN ?_ _ | refine chg_set ?_ _ _ _))) hsm').mono ?_; rintro e w' ⟨A2, c2', rfl, ho, g3, rfl⟩)
        | (go_loud (refine step_append_lies _ rfl (.tmp 17) (.tmp 20) 58 rfl (w.heap.size + 1) 110 i0 _ 4 48 Tryz.underlying58 hi0 hz0 hz1 hz2 rfl (by decide) (.slice A1 k cap1) k (flat (B.l.take k) vs') rfl (own_chg hgO (F := Noth) (by repeat (with_reducible first | exact Chg.refl _ _ | refine chg_m ?_ _ | refine chg_g ?_ _ | refine chg_alloc ?_ _ | refine chg_drew ?_ | refine chg_drewN ?_ _ | refine chg_set ?_ _ _ _)) (fun _ _ e => e)) ⟨_, 0, none⟩ 1 1 [i64 x.id, i64 x.fr, i64 x.to, .slice A2 x.data.length c2'] rfl rfl (World.news_of_block (cs := #[i64 x.id, i64 x.fr, i64 x.to, .slice A2 x.data.length c2']) (heap_alloc_hs _ _ _)) (by intro u hu; simp at hu; rcases hu with rfl | rfl | rfl | rfl <;> rfl) (by omega) (by simp only [maxLen]; omega) (by omega) (Old.lt (b := w.heap.size)) _ rfl ?_); intro ge cape w1 hown1 hgrow hat hlt1; have x0 : w1.cell? ⟨w.heap.size, 0, none⟩ = some (.slice A1 k cap1) := (hgrow.cell_far ⟨w.heap.size, 0, none⟩ (Old.lt (b := w.heap.size)) (fun e => hne1 _ e.symm rfl)).trans (by simp [go_sem, y0]); have x1 : w1.frozen? ⟨w.heap.size, 0, none⟩ = false := (hgrow.frozen_far ⟨w.heap.size, 0, none⟩ (Old.lt (b := w.heap.size)) (fun e => hne1 _ e.symm rfl)).trans (by simp [go_sem, y1])))
      all_goals
        have hC1 : Chg Noth w w1 := Chg.trans (G := fun q => (Value.slice A1 k cap1).ownBlock = some q) (by repeat (with_reducible first | exact hCW | exact Chg.refl _ _ | refine chg_m ?_ _ | refine chg_g ?_ _ | refine chg_alloc ?_ _ | refine chg_drew ?_ | refine chg_drewN ?_ _ | refine chg_set ?_ _ _ _)) (Chg.of_grown hgrow) (fun q hq e => by have := (hgO.lt q e).1; omega)
        have hv3 := own_base (base' := w.heap.size + 1) ho (Old.lt (b := w.heap.size))
        have HW := gl_snoc (x := x) hglW (by repeat (with_reducible first | exact Chg.refl _ _ | refine chg_m ?_ _ | refine chg_g ?_ _ | refine chg_alloc ?_ _ | refine chg_drew ?_ | refine chg_drewN ?_ _ | refine chg_set ?_ _ _ _)) hgrow (by rw [HKL.out]; exact hown1) (own_chg (F := Noth) hv3 (by repeat (with_reducible first | exact Chg.refl _ _ | refine chg_m ?_ _ | refine chg_g ?_ _ | refine chg_alloc ?_ _ | refine chg_drew ?_ | refine chg_drewN ?_ _ | refine chg_set ?_ _ _ _)) (fun _ _ e => e))
        rw [HKL.out] at HW
        have hbox1 : w1.heap[w.heap.size]? = some (.cells #[.slice A1 k cap1] 58 (0, 0)) := by
          rw [hgrow.block w.heap.size (Old.lt (b := w.heap.size)) (fun e => hne1 _ e.symm rfl)]
          refine Eq.trans ?_ HBW.out
          exact Chg.block (F := Noth) (a := W) (by repeat (with_reducible first | exact Chg.refl _ _ | refine chg_m ?_ _ | refine chg_g ?_ _ | refine chg_alloc ?_ _ | refine chg_drew ?_ | refine chg_drewN ?_ _ | refine chg_set ?_ _ _ _)) _ i5.lt (fun e => e)
        have hbox2 := heap_setCell_same w1 w.heap.size 0 _ _ (.slice (some ⟨ge, 0, none⟩) (k + 1) cape) hbox1
        have HG2 : GL (w1.setCell ⟨w.heap.size, 0, none⟩ (.slice (some ⟨ge, 0, none⟩) (k + 1) cape)) (w.heap.size + 1) (.slice (some ⟨ge, 0, none⟩) (k + 1) cape) (vs' ++ [.slice A2 x.data.length c2']) (B.l.take (k + 1)) := by
          rw [List.take_add_one, hx]
          exact HW.chg (G := fun q => q = w.heap.size) (chg_set (Chg.refl _ _) _ _ _) (fun q hq _ e => by omega)
        obtain ⟨gg, hgg⟩ := muts_ex (F := Noth) (w := w) (w' := w1.setCell ⟨w.heap.size, 0, none⟩ (.slice (some ⟨ge, 0, none⟩) (k + 1) cape)) (by repeat (with_reducible first | exact hC1 | exact Chg.refl _ _ | refine chg_m ?_ _ | refine chg_g ?_ _ | refine chg_alloc ?_ _ | refine chg_drew ?_ | refine chg_drewN ?_ _ | refine chg_set ?_ _ _ _))
        rw [hgg] at hbox2 HG2
        have HGG := Lib.hid hgg
        clear hgg
        have HG3 := Lib.hid HG2
        have HB3 := Lib.hid hbox2
        clear HW hbox1 hbox2 HG2 hgrow hat hown1
        go_wp2
        go_roundw
        case rel => exact ⟨k + 1, gg, _, _, by omega, by go_num, HGG.out, HB3.out, HG3.out⟩
        case measure => simp [intOf]; omega
    · obtain rfl : k = n := by omega
      have HBX := Lib.hid hbox
      have HGX : Hid (GL g.w (w.heap.size + 1) gs' vs' B.l) := Lib.hid (by have := hgl; rwa [HN.out, List.take_length] at this)
      clear hbox hgl
      go_wp2
      go_ret
      exact ⟨rfl, g, rfl, gs', vs', HGX.out, HBX.out⟩
end Go.Proofs.YteemkceceaabkaaGreat
