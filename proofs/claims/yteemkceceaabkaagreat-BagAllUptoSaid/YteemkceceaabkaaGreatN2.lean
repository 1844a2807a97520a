/- The law's 'all': the bag by its iterator: a list of its own, alike. -/
import Derived.Test.YteemkceceaabkaaGreatY2
namespace Go.Proofs.YteemkceceaabkaaGreat
open Go.RowKit Go.Ear Go.Shelf
attribute [local go_sem] Oper.semAt_some
set_option maxHeartbeats 1000000
set_option maxRecDepth 40000

theorem blk_kept {W W' : World} {row : Option Nat} {k : Nat} {cs : Array Value} {t : TypeId} {fr : Nat × Nat} (h : W.heap[k]? = some (.cells cs t fr)) (hg : W.grownBy W' row) (hr : ∀ r, row = some r → ∃ o : Obj, W.heap[r]? = some o ∧ o.isCells = false) : W'.heap[k]? = some (.cells cs t fr) :=
  (hg.block k (Array.getElem?_eq_some_iff.1 h).1 fun e => by
    obtain ⟨o, ho, hc⟩ := hr k e.symm
    rw [h] at ho
    cases ho
    cases hc).trans h
theorem row_kept {W W' : World} {row : Option Nat} {base n sz : Nat} {e : TypeId} {v : Value} {xs : List Value} (h : W.ownsRow base e sz v n xs) (hg : W.grownBy W' row) (hr : ∀ r, row = some r → ∃ o : Obj, W.heap[r]? = some o ∧ o.isCells = false) : W'.ownsRow base e sz v n xs := by
  refine own_kept h fun k hk => ?_
  rcases h.2 with ⟨rfl, _⟩ | ⟨g, cap, cur, rfl, _, hb, _⟩
  · simp [Value.ownBlock] at hk
  · simp [Value.ownBlock] at hk
    subst hk
    exact (blk_kept hb hg hr).trans hb.symm
theorem keeps_chg {n0 : Nat} {F : Nat → Prop} {W W' : World} (h : Chg F W W') (hF : ∀ k, F k → k < n0 ∨ ∃ cs t fr, W.heap[k]? = some (.cells cs t fr)) : KeepsFrom n0 W W' :=
  ⟨h.size, fun k o hk ho hc => (h.block k (Array.getElem?_eq_some_iff.1 ho).1 fun hf => by
    rcases hF k hf with h1 | ⟨cs, t, fr, h1⟩
    · omega
    · rw [ho] at h1
      cases h1
      cases hc).trans ho⟩
theorem chg_kept {w W W' : World} {row : Option Nat} (h : Chg Noth w W) (hg : W.grownBy W' row) (hr : ∀ r, row = some r → w.heap.size ≤ r) : Chg Noth w W' :=
  h.trans (Chg.of_grown hg) fun i hi e => by have := hr i e; omega

def flatG (xs : List Got) : List Value := flat (xs.map Got.g) (xs.map Got.v)
theorem flatG_snoc (xs : List Got) (x : Got) : flatG (xs ++ [x]) = flatG xs ++ [i64 x.g.id, i64 x.g.fr, i64 x.g.to, x.v] := by
  unfold flatG
  rw [List.map_append, List.map_append]
  exact flat_snoc _ _ _ _ (by simp)

/-- Between two rounds. -/
structure IAll (w : World) (n0 : Nat) (pre : List Got) (W : World) : Prop where
  sz : n0 ≤ W.heap.size
  chg : Chg Noth w W
  r2 : W.heap[w.heap.size]? = some (.cells #[.slice none 0 0] 58 (0, 0))
  r3 : W.heap[w.heap.size + 1]? = some (.cells #[.bool false] 4 (0, 0))
  r4 : ∃ gs, W.heap[w.heap.size + 1 + 1]? = some (.cells #[gs] 58 (0, 0)) ∧ W.ownsRow n0 110 4 gs pre.length (flatG pre)
  r5 : W.heap[w.heap.size + 1 + 1 + 1]? = some (.cells #[i64 pre.length] 3 (0, 0))
theorem iall_own (w : World) (n0 : Nat) (h0 : w.heap.size ≤ n0) : OwnFrom n0 (IAll w n0) := fun pre A B row hs hg hr => by
  have hr' : ∀ r, row = some r → ∃ o : Obj, A.heap[r]? = some o ∧ o.isCells = false := fun r e => (hr r e).2
  obtain ⟨gs, h4, h5⟩ := hs.r4
  exact ⟨Nat.le_trans hs.sz hg.size, chg_kept hs.chg hg fun r e => by have := (hr r e).1; omega, blk_kept hs.r2 hg hr', blk_kept hs.r3 hg hr', ⟨gs, blk_kept h4 hg hr', row_kept h5 hg hr'⟩, blk_kept hs.r5 hg hr'⟩

theorem IAll.grow {w : World} {n0 : Nat} {pre : List Got} {A B : World} (h : IAll w n0 pre A) (hc : Chg Noth A B) (h0 : w.heap.size ≤ n0) : IAll w n0 pre B := iall_own w n0 h0 pre A B none h (chg_grown hc) (fun r e => by cases e)

theorem all_any (p : Nat) (B : BagS) (F : Nat → Prop) (w : World) (h : IsBag w p B F) :
    Calls Tryz.prog 94 #[.pointer (some ⟨p, 0, none⟩)] w fun e w' => ∃ A c vs, e = .returned (.tuple #[.slice A B.l.length c, .bool true]) ∧ (∃ g : Grows w, w' = g.w) ∧ GL w' w.heap.size (.slice A B.l.length c) vs B.l ∧ vs.Pairwise (fun y x => ∀ k, y.ownBlock = some k → x.ownBlock ≠ some k) := by
  have hwalk := fun W h => all_walk p B F W h
  obtain ⟨hsm, hle⟩ : (∀ g ∈ B.l, g.data.length ≤ 1024) ∧ B.l.length ≤ 65536 := by
    obtain ⟨gs, vs, hr, _⟩ := h
    exact ⟨hr.small, by have := hr.fits; omega⟩
  have hnil : ∀ (q : Value) (W : World), (binOp .eql 172 (.func (.func 136) #[] #[q]) .nilFunc).run Tryz.prog W = .ok (.bool false) W := fun _ _ => by kernel_rfl
  refine (callsIn_wide (n := 5)).1 ?_
  refine callsIn_of_wp_marks Tryz.func94 rfl trivial ?_ rfl
  simp only [Tryz.ntmps94, List.size_toArray, List.length_cons, List.length_nil, Nat.reduceAdd, Nat.reduceSub, Array.replicate_succ, Array.replicate_zero, List.push_toArray, List.append_toArray, List.nil_append, List.cons_append]
  gi_wp2_with (refine ⟨trivial, ?_⟩; gi_at_call 131; refine (callsIn_wide.2 (hwalk _ (h.grow (by repeat (with_reducible first | exact Chg.refl _ _ | refine chg_m ?_ _ | refine chg_g ?_ _ | refine chg_alloc ?_ _ | refine chg_drew ?_ | refine chg_drewN ?_ _ | refine chg_set ?_ _ _ _))))).mono ?_; rintro e w' ⟨rfl, g, rfl, gs, vs, hgl, hbx⟩; simp only [World.size_alloc] at hgl hbx; have HG := Lib.hid hgl; have HB := Lib.hid hbx; clear hgl hbx)
  have hC : Chg Noth w g.w := by repeat (with_reducible first | exact Chg.refl _ _ | refine chg_m ?_ _ | refine chg_g ?_ _ | refine chg_alloc ?_ _ | refine chg_drew ?_ | refine chg_drewN ?_ _ | refine chg_set ?_ _ _ _)
  have hsz : w.heap.size + 4 < g.w.heap.size := (Array.getElem?_eq_some_iff.1 HB.out).1
  have k2 : g.w.heap[w.heap.size]? = some (.cells #[.slice none 0 0] 58 (0, 0)) := by
    rw [g.h.block _ (by simp <;> omega) (fun e => e)]
    rw [Below.heap_alloc _ _ _ (by simp <;> omega), Below.heap_alloc _ _ _ (by simp <;> omega), Below.heap_alloc _ _ _ (by simp)]
    exact heap_alloc_new _ _
  have k3 : g.w.heap[w.heap.size + 1]? = some (.cells #[.bool false] 4 (0, 0)) := by
    rw [g.h.block _ (by simp <;> omega) (fun e => e)]
    rw [Below.heap_alloc _ _ _ (by simp <;> omega), Below.heap_alloc _ _ _ (by simp)]
    exact heap_alloc_hs _ _ _
  have k4 : g.w.heap[w.heap.size + 1 + 1]? = some (.cells #[.slice none 0 0] 58 (0, 0)) := by
    rw [g.h.block _ (by simp) (fun e => e)]
    rw [Below.heap_alloc _ _ _ (by simp)]
    exact heap_alloc_hs _ _ _
  have k5 : g.w.heap[w.heap.size + 1 + 1 + 1]? = some (.cells #[i64 0] 3 (0, 0)) := by
    rw [g.h.block _ (by simp) (fun e => e)]
    exact heap_alloc_hs _ _ _
  have hI0 : IAll w g.w.heap.size [] g.w := ⟨Nat.le_refl _, hC, k2, k3, ⟨_, k4, World.ownsRow_nil _ _ _ _⟩, k5⟩
  have hit : It (w.heap.size + 1 + 1 + 1 + 1) (w.heap.size + 1 + 1 + 1 + 1 + 1) g.w.heap.size (fun k => k < w.heap.size + 1 + 1 + 1 + 1 ∧ w.heap.size ≤ k) gs vs B.l g.w := by
    refine ⟨HG.out, ⟨_, HB.out⟩, ⟨by omega, by omega⟩, fun k hk => ?_⟩
    have := HG.out
    rcases hk with hk | ⟨v, hv, hk⟩
    · have := this.own.lt k hk
      omega
    · obtain ⟨j, hj⟩ := List.mem_iff_getElem?.1 hv
      have hl : j < B.l.length := by have := (List.getElem?_eq_some_iff.1 hj).1; have := HG.out.len; omega
      have := (this.data j _ v (List.getElem?_eq_getElem hl) hj).lt k hk
      omega
  have hI1 := Lib.hid hI0
  clear hI0 k2 k3 k4 k5
  refine wpIn_range_given (F := Fence.wide) (n := 5) rfl (by omega) (gf := 136) (lb := #[.pointer (some ⟨w.heap.size + 1 + 1 + 1 + 1, 0, none⟩)]) rfl trivial (enters_of Tryz.func136 (by kernel_rfl) rfl)
    (all1_given 4 (by omega) _ _ _ gs vs B.l hsm hle g.w (fun k hk => by omega) hit) Kpp.trans (fun W l o o' hl ho hc _ => Kpp.put hl ho hc) (Below.refl _ _) (fun _ => rfl)
    (fun pre x => gave_own _ _ _ pre x) (came_own _ _ _) (IAll w g.w.heap.size) (fun _ _ _ => False) (iall_own _ _ (by omega)) (fun _ _ _ _ _ hs _ _ => hs) hI1.out
    (fun x a' W => ∃ Bx, g.w.heap.size ≤ Bx ∧ W.heap[Bx]? = some (.cells #[i64 x.g.id, i64 x.g.fr, i64 x.g.to, x.v] 110 (0, 0)) ∧ a' = { tmps := #[.pointer (some ⟨p, 0, none⟩), undef, .pointer (some ⟨w.heap.size, 0, none⟩), .pointer (some ⟨w.heap.size + 1, 0, none⟩), .pointer (some ⟨w.heap.size + 1 + 1, 0, none⟩), .pointer (some ⟨w.heap.size + 1 + 1 + 1, 0, none⟩), (.func (.func 136) #[] #[.pointer (some ⟨w.heap.size + 1 + 1 + 1 + 1, 0, none⟩)]), i64 x.i, .pointer (some ⟨Bx, 0, none⟩), .pointer (some ⟨p, 0, none⟩), (.func (.func 136) #[] #[.pointer (some ⟨w.heap.size + 1 + 1 + 1 + 1, 0, none⟩)]), (.func (.func 136) #[] #[.pointer (some ⟨w.heap.size + 1 + 1 + 1 + 1, 0, none⟩)]), .bool false, (.func (.func 136) #[] #[.pointer (some ⟨w.heap.size + 1 + 1 + 1 + 1, 0, none⟩)]), i64 x.i, gv x.g.id x.g.fr x.g.to x.v, undef, undef, undef, undef, undef, undef, undef, undef, undef, undef], defers := [] }) ?hAx ?assign ?body ?done ?stop
  case hAx =>
    intro x a' _ A B row hs hg hr
    obtain ⟨Bx, h1, h2, h3⟩ := hs
    exact ⟨Bx, h1, blk_kept h2 hg fun r e => (hr r e).2, h3⟩
  case assign =>
    intro l pre x W K hi hg hK
    have hsW := hi.chg.size
    unfold Got.enc
    gi_wp2
    have hc : Chg Noth W (W.alloc (.cells #[i64 x.g.id, i64 x.g.fr, i64 x.g.to, x.v] 110)) := chg_alloc (Chg.refl _ _) _
    exact hK _ _ (keeps_chg hc fun _ e => e.elim) (Kpp.of_chg hc fun _ e => e.elim) (hi.grow hc (by omega)) ⟨hg.1, hg.2.1, own_chg hg.2.2 hc fun _ _ e => e⟩ ⟨W.heap.size, hi.sz, heap_alloc_new _ _, rfl⟩
  case body =>
    rintro l pre x a' W hl _ hi hg ⟨Bx, hB1, hB2, rfl⟩ hlt
    obtain ⟨i, y, D, dc⟩ := x
    obtain ⟨rfl, hL, hrow⟩ := hg
    obtain ⟨gs', h4, ho4⟩ := hi.r4
    obtain ⟨A1, cap1, rfl⟩ := own_shape ho4
    have hsW := hi.sz
    have x4 : W.cell? ⟨w.heap.size + 1 + 1, 0, none⟩ = some (.slice A1 pre.length cap1) := by rw [cell_of_row _ _ 0 _ _ _ h4]; rfl
    have f4 : W.frozen? ⟨w.heap.size + 1 + 1, 0, none⟩ = false := frozen_of_row _ _ 0 _ _ h4
    have x5 : W.cell? ⟨w.heap.size + 1 + 1 + 1, 0, none⟩ = some (i64 pre.length) := by rw [cell_of_row _ _ 0 _ _ _ hi.r5]; rfl
    have f5 : W.frozen? ⟨w.heap.size + 1 + 1 + 1, 0, none⟩ = false := frozen_of_row _ _ 0 _ _ hi.r5
    have y0 : W.cell? ⟨Bx, 0, none⟩ = some (i64 y.id) := by rw [cell_of_row _ _ 0 _ _ _ hB2]; rfl
    have y1 : W.cell? ⟨Bx, 1, none⟩ = some (i64 y.fr) := by rw [cell_of_row _ _ 1 _ _ _ hB2]; rfl
    have y2 : W.cell? ⟨Bx, 2, none⟩ = some (i64 y.to) := by rw [cell_of_row _ _ 2 _ _ _ hB2]; rfl
    have y3 : W.cell? ⟨Bx, 3, none⟩ = some (.slice D y.data.length dc) := by rw [cell_of_row _ _ 3 _ _ _ hB2]; rfl
    have hBx : Bx < W.heap.size := (Array.getElem?_eq_some_iff.1 hB2).1
    have iB : Old Bx W := ⟨hBx⟩
    have i4 : Old (w.heap.size + 1 + 1) W := ⟨by omega⟩
    have i5 : Old (w.heap.size + 1 + 1 + 1) W := ⟨by omega⟩
    have n1 : ¬ Bx = w.heap.size + 1 + 1 + 1 := by omega
    have hlen : pre.length < 65536 := by omega
    obtain ⟨i0, hi0, hz0, hz1, hz2⟩ := info_parts info35
    have iM : May (w.heap.size + 1 + 1 + 1) (fun k => k = w.heap.size + 1 + 1 + 1) W := ⟨.inl rfl⟩
    have hgO : (W.setCell ⟨w.heap.size + 1 + 1 + 1, 0, none⟩ (i64 (pre.length + 1))).ownsRow g.w.heap.size 110 4 (.slice A1 pre.length cap1) pre.length (flatG pre) :=
      own_chg ho4 (F := fun k => k = w.heap.size + 1 + 1 + 1) (chg_set (Chg.refl _ _) _ _ _) fun k hk e => by have := (ho4.lt k hk).1; omega
    have hne : ∀ q, (Value.slice A1 pre.length cap1).ownBlock = some q → g.w.heap.size ≤ q ∧ q < W.heap.size := fun q hq => ho4.lt q hq
    have hne4 : ¬ (Value.slice A1 pre.length cap1).ownBlock = some (w.heap.size + 1 + 1) := fun e => by have := (hne _ e).1; omega
    have hne5 : ¬ (Value.slice A1 pre.length cap1).ownBlock = some (w.heap.size + 1 + 1 + 1) := fun e => by have := (hne _ e).1; omega
    have H4 := Lib.hid h4
    have HB2 := Lib.hid hB2
    have HL := Lib.hid hL
    clear h4 hB2 hL
    gi_wp2_with (gi_at_builtin; refine wpListIn_append_own _ rfl _ _ 58 rfl g.w.heap.size 110 i0 _ 4 48 Tryz.underlying58 hi0 hz0 hz1 hz2 rfl (by decide) (.slice A1 pre.length cap1) pre.length (flatG pre) rfl (own_chg (F := Noth) hgO (by repeat (with_reducible first | exact Chg.refl _ _ | refine chg_m ?_ _ | refine chg_g ?_ _ | refine chg_alloc ?_ _ | refine chg_drew ?_ | refine chg_drewN ?_ _ | refine chg_set ?_ _ _ _)) (fun _ _ e => e)) ⟨_, 0, none⟩ 1 1 [i64 y.id, i64 y.fr, i64 y.to, .slice D y.data.length dc] rfl rfl (World.news_of_block (cs := #[i64 y.id, i64 y.fr, i64 y.to, .slice D y.data.length dc]) (heap_alloc_hs _ _ _)) (by intro u hu; simp at hu; rcases hu with rfl | rfl | rfl | rfl <;> rfl) (by simp only [maxLen]; omega) (by omega) (by simp <;> omega) ?_; intro v' w1 hown' hgrow _; obtain ⟨g', cap', rfl⟩ := ownsRow_succ hown'; have x4' : w1.cell? ⟨w.heap.size + 1 + 1, 0, none⟩ = some (.slice A1 pre.length cap1) := (hgrow.cell_far ⟨w.heap.size + 1 + 1, 0, none⟩ (Old.lt (b := w.heap.size + 1 + 1)) (fun e => hne4 e.symm)).trans (by simp [go_sem, x4]); have f4' : w1.frozen? ⟨w.heap.size + 1 + 1, 0, none⟩ = false := (hgrow.frozen_far ⟨w.heap.size + 1 + 1, 0, none⟩ (Old.lt (b := w.heap.size + 1 + 1)) (fun e => hne4 e.symm)).trans (by simp [go_sem, f4]))
    have hX : Chg (fun k => k = w.heap.size + 1 + 1 + 1) W ((W.setCell ⟨w.heap.size + 1 + 1 + 1, 0, none⟩ (i64 (pre.length + 1))).alloc (.cells #[i64 y.id, i64 y.fr, i64 y.to, .slice D y.data.length dc] 110)) := chg_alloc (chg_set (Chg.refl _ _) _ _ _) _
    have hY : Chg (fun k => k = w.heap.size + 1 + 1 + 1 ∨ (Value.slice A1 pre.length cap1).ownBlock = some k) W w1 :=
      (hX.mono (fun _ _ e => .inl e)).trans (Chg.of_grown hgrow) fun k _ e => .inr e
    have iM4 : May (w.heap.size + 1 + 1) (fun k => k = w.heap.size + 1 + 1 ∨ k = w.heap.size + 1 + 1 + 1 ∨ (Value.slice A1 pre.length cap1).ownBlock = some k) W := ⟨.inl (.inl rfl)⟩
    have hZ : Chg (fun k => k = w.heap.size + 1 + 1 ∨ k = w.heap.size + 1 + 1 + 1 ∨ (Value.slice A1 pre.length cap1).ownBlock = some k) W (w1.setCell ⟨w.heap.size + 1 + 1, 0, none⟩ (.slice (some ⟨g', 0, none⟩) (pre.length + 1) cap')) :=
      chg_set (hY.mono fun _ _ e => .inr e) _ _ _
    have hcell : ∀ k, (Value.slice A1 pre.length cap1).ownBlock = some k → ∃ cs fr, W.heap[k]? = some (.cells cs 110 fr) := fun k hk => by
      rcases ho4.2 with ⟨e, _⟩ | ⟨q, cap, cur, e, _, hb, _⟩
      · rw [e] at hk; simp [Value.ownBlock] at hk
      · rw [e] at hk
        simp [Value.ownBlock] at hk
        subst hk
        exact ⟨_, _, hb⟩
    have hfar : ∀ k, k < w.heap.size + 1 + 1 → ¬ (k = w.heap.size + 1 + 1 ∨ k = w.heap.size + 1 + 1 + 1 ∨ (Value.slice A1 pre.length cap1).ownBlock = some k) := fun k hk e => by
      rcases e with e | e | e
      · omega
      · omega
      · have := (hne k e).1
        omega
    refine ⟨keeps_chg hZ fun k hk => ?_, Kpp.of_chg hZ fun k hk => ?_, ?_⟩
    · rcases hk with hk | hk | hk
      · exact .inl (by omega)
      · exact .inl (by omega)
      · obtain ⟨cs, fr, h⟩ := hcell k hk
        exact .inr ⟨cs, _, fr, h⟩
    · rcases hk with hk | hk | hk
      · exact .inl (by omega)
      · exact .inl (by omega)
      · refine .inr ⟨(hne k hk).1, fun cs fr h => ?_⟩
        obtain ⟨cs', fr', h'⟩ := hcell k hk
        rw [h] at h'
        simp at h'
    · have hb4 : w1.heap[w.heap.size + 1 + 1]? = some (.cells #[.slice A1 pre.length cap1] 58 (0, 0)) := (hY.block _ (by omega) (fun e => by
        rcases e with e | e
        · omega
        · exact hne4 e)).trans H4.out
      have hb5 : (w1.setCell ⟨w.heap.size + 1 + 1, 0, none⟩ (.slice (some ⟨g', 0, none⟩) (pre.length + 1) cap')).heap[w.heap.size + 1 + 1 + 1]? = some (.cells #[i64 (pre.length + 1 : Nat)] 3 (0, 0)) := by
        rw [heap_set_far _ _ _ _ (by omega), hgrow.block _ (by simp [World.setCell] <;> omega) (fun e => hne5 e.symm), Below.heap_alloc _ _ _ (by simp [World.setCell]; omega)]
        exact heap_setCell_same W _ 0 _ _ (i64 (pre.length + 1)) hi.r5
      refine ⟨Nat.le_trans hsW hZ.size, hi.chg.trans hZ (fun k hk e => (hfar k (by omega) e).elim), (hZ.block _ (by omega) (hfar _ (by omega))).trans hi.r2, (hZ.block _ (by omega) (hfar _ (by omega))).trans hi.r3, ⟨_, heap_setCell_same w1 _ 0 _ _ _ hb4, ?_⟩, by simpa using hb5⟩
      have iM2 : May (w.heap.size + 1 + 1) (fun k => k = w.heap.size + 1 + 1) w1 := ⟨.inl rfl⟩
      have := own_chg hown' (F := fun k => k = w.heap.size + 1 + 1) (chg_set (Chg.refl _ w1) (w.heap.size + 1 + 1) 0 (.slice (some ⟨g', 0, none⟩) (pre.length + 1) cap')) fun k hk e => by have := (hown'.lt k hk).1; omega
      rw [flatG_snoc]
      simpa using this
  case done =>
    rintro D xs W hD ⟨hmap, hrows, hfar⟩ hi hK
    obtain ⟨gs', h4, ho4⟩ := hi.r4
    obtain ⟨A1, cap1, rfl⟩ := own_shape ho4
    have hsW := hi.sz
    have x4 : W.cell? ⟨w.heap.size + 1 + 1, 0, none⟩ = some (.slice A1 xs.length cap1) := by rw [cell_of_row _ _ 0 _ _ _ h4]; rfl
    have x2 : W.cell? ⟨w.heap.size, 0, none⟩ = some (.slice none 0 0) := by rw [cell_of_row _ _ 0 _ _ _ hi.r2]; rfl
    have f2 : W.frozen? ⟨w.heap.size, 0, none⟩ = false := frozen_of_row _ _ 0 _ _ hi.r2
    have x3 : W.cell? ⟨w.heap.size + 1, 0, none⟩ = some (.bool false) := by rw [cell_of_row _ _ 0 _ _ _ hi.r3]; rfl
    have f3 : W.frozen? ⟨w.heap.size + 1, 0, none⟩ = false := frozen_of_row _ _ 0 _ _ hi.r3
    have HFA := Lib.hid hfar
    clear hfar
    have HM := Lib.hid hmap
    have HK := Lib.hid hK
    clear hmap hK h4
    gi_wp2
    have iM2 : May w.heap.size (fun k => k = w.heap.size ∨ k = w.heap.size + 1) W := ⟨.inl (.inl rfl)⟩
    have iM3 : May (w.heap.size + 1) (fun k => k = w.heap.size ∨ k = w.heap.size + 1) W := ⟨.inl (.inr rfl)⟩
    have hZ : Chg (fun k => k = w.heap.size ∨ k = w.heap.size + 1) W ((W.setCell ⟨w.heap.size, 0, none⟩ (.slice A1 xs.length cap1)).setCell ⟨w.heap.size + 1, 0, none⟩ (.bool true)) := chg_set (chg_set (Chg.refl _ _) _ _ _) _ _ _
    have q2 : ((W.setCell ⟨w.heap.size, 0, none⟩ (.slice A1 xs.length cap1)).setCell ⟨w.heap.size + 1, 0, none⟩ (.bool true)).heap[w.heap.size]? = some (.cells #[.slice A1 xs.length cap1] 58 (0, 0)) := by
      rw [heap_set_far (w.heap.size + 1) 0 w.heap.size _ (by omega)]
      exact heap_setCell_same W _ 0 _ _ _ hi.r2
    have q3 : ((W.setCell ⟨w.heap.size, 0, none⟩ (.slice A1 xs.length cap1)).setCell ⟨w.heap.size + 1, 0, none⟩ (.bool true)).heap[w.heap.size + 1]? = some (.cells #[.bool true] 4 (0, 0)) :=
      heap_setCell_same _ _ 0 _ _ _ (by rw [heap_set_far w.heap.size 0 (w.heap.size + 1) (.slice A1 xs.length cap1) (by omega)]; exact hi.r3)
    generalize (W.setCell ⟨w.heap.size, 0, none⟩ (.slice A1 xs.length cap1)).setCell ⟨w.heap.size + 1, 0, none⟩ (.bool true) = W2 at *
    have hK2 : W2.heap[D]? = some (.deferred (some [])) := (hZ.block D (Array.getElem?_eq_some_iff.1 HK.out).1 (by omega)).trans HK.out
    have hgr := grownBy_putObj' W2 D (.deferred none)
    have hnc : ∀ r, some D = some r → ∃ o : Obj, W2.heap[r]? = some o ∧ o.isCells = false := fun r e => by cases e; exact ⟨_, hK2, rfl⟩
    have q2' := blk_kept q2 hgr hnc
    have q3' := blk_kept q3 hgr hnc
    have hrow : ∀ {base n sz : Nat} {e : TypeId} {v : Value} {l : List Value}, g.w.heap.size ≤ base → W.ownsRow base e sz v n l → (W2.putObj D (.deferred none)).ownsRow base e sz v n l := fun hb h =>
      row_kept (own_chg h hZ fun k hk e => by have := (h.lt k hk).1; rcases e with e | e <;> omega) hgr hnc
    refine ⟨by simp, .inl ⟨_, _, rfl, run_takeDeferred hK2, ?_⟩⟩
    generalize W2.putObj D (.deferred none) = W3 at *
    have z2 : W3.cell? ⟨w.heap.size, 0, none⟩ = some (.slice A1 xs.length cap1) := by rw [cell_of_row _ _ 0 _ _ _ q2']; rfl
    have z3 : W3.cell? ⟨w.heap.size + 1, 0, none⟩ = some (.bool true) := by rw [cell_of_row _ _ 0 _ _ _ q3']; rfl
    refine ⟨.tuple #[.slice A1 xs.length cap1, .bool true], by simp [results, Tryz.results94, go_sem, z2, z3], ?_⟩
    have hlen : B.l.length = xs.length := by rw [← HM.out, List.length_map]
    rw [hlen]
    refine ⟨A1, cap1, xs.map Got.v, rfl, muts_ex ((hi.chg.trans hZ (fun k hk e => by omega)).trans (Chg.of_grown hgr) fun k hk e => by cases e; omega), ?_, List.pairwise_map.2 HFA.out⟩
    refine ⟨?_, by rw [List.length_map, hlen], fun j y v hy hv => ?_⟩
    · rw [hlen, ← HM.out]
      exact own_base (hrow (Nat.le_refl _) ho4) (by omega)
    · rw [← HM.out, List.getElem?_map] at hy
      rw [List.getElem?_map] at hv
      rcases hx : xs[j]? with _ | x
      · rw [hx] at hy; cases hy
      · rw [hx] at hy hv
        cases hy
        cases hv
        exact own_base (hrow (Nat.le_refl _) (hrows x (List.mem_of_getElem? hx))) (by omega)
  case stop => rintro D c pre W _ _ h _; exact h.elim
end Go.Proofs.YteemkceceaabkaaGreat
