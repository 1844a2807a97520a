/- script.rows: the table of the kinds of steps. -/
import Derived.Test.YtkamjhhaghkdmaaDoorH37
import Derived.Laws.EntriesVeiled
import Derived.Great.BuildSlice
namespace Go.Proofs.YtkamjhhaghkdmaaDoor
open Go.RowKit Go.Ear Go.Shelf
set_option maxHeartbeats 4000000
set_option maxRecDepth 100000
set_option linter.unusedSimpArgs false
set_option linter.unusedVariables false
/-- A list of places in memory. -/
def PlsV (w : World) (ps : List Pl) (v : Value) : Prop := ∃ (g : Nat) (vs : List Value) (z : Nat × Nat), v = .slice (some ⟨g, 0, none⟩) ps.length ps.length ∧ w.heap[g]? = some (.cells (vs.flatMap fun x => x.cells.toList).toArray 92 z) ∧ vs.length = ps.length ∧ ∀ (i : Nat) p x, ps[i]? = some p → vs[i]? = some x → PlV w p x
/-- A row in memory. -/
def RowV (w : World) (r : List UInt8 × Int × List Pl) (v : Value) : Prop := ∃ x, v = .agg #[.string ⟨r.1.toArray⟩, .int .i64 r.2.1, x] ∧ PlsV w r.2.2 x
/-- The table in memory. -/
def TabV (w : World) (v : Value) : Prop := ∃ (g : Nat) (vs : List Value) (z : Nat × Nat), v = .slice (some ⟨g, 0, none⟩) 12 12 ∧ w.heap[g]? = some (.cells (vs.flatMap fun x => x.cells.toList).toArray 85 z) ∧ vs.length = 12 ∧ ∀ (i : Nat) r x, stepRows[i]? = some r → vs[i]? = some x → RowV w r x
theorem PlsV.grow {w w' : World} (hc : Chg Noth w w') {ps : List Pl} {v : Value} (h : PlsV w ps v) : PlsV w' ps v := by
  obtain ⟨g, vs, z, h1, h2, h3, h4⟩ := h
  exact ⟨g, vs, z, h1, blk_grow hc h2, h3, fun i p x hp hx => (h4 i p x hp hx).grow hc⟩
theorem RowV.grow {w w' : World} (hc : Chg Noth w w') {r : List UInt8 × Int × List Pl} {v : Value} (h : RowV w r v) : RowV w' r v := by
  obtain ⟨x, h1, h2⟩ := h
  exact ⟨x, h1, h2.grow hc⟩
theorem TabV.grow {w w' : World} (hc : Chg Noth w w') {v : Value} (h : TabV w v) : TabV w' v := by
  obtain ⟨g, vs, z, h1, h2, h3, h4⟩ := h
  exact ⟨g, vs, z, h1, blk_grow hc h2, h3, fun i p x hp hx => (h4 i p x hp hx).grow hc⟩
/-- What a slot holds. -/
inductive KS where
  | pl (p : Pl)
  | pls (l : List Pl)
  | row (k : Nat)
  | tab
def KS.V (w : World) : KS → Value → Prop
  | .pl p, v => PlV w p v
  | .pls l, v => PlsV w l v
  | .row k, v => RowV w (stepRows.getD k ([], 0, [])) v
  | .tab, v => TabV w v
theorem KS.V.grow {w w' : World} (hc : Chg Noth w w') : ∀ {k : KS} {v : Value}, KS.V w k v → KS.V w' k v
  | .pl _, _, h => PlV.grow hc h
  | .pls _, _, h => PlsV.grow hc h
  | .row _, _, h => RowV.grow hc h
  | .tab, _, h => TabV.grow hc h
def rowKinds : List KS := [.pl (.sign), .pls [.sign], .row 0, .pl (.sign), .pls [.sign], .row 1, .pl (.sign), .pls [.sign], .row 2, .pl (.sign), .pl (.num 1), .pls [.sign, .num 1], .row 3, .pl (.num 0), .pls [.num 0], .row 4, .pl (.num 0), .pls [.num 0], .row 5, .pl (.num 0), .pls [.num 0], .row 6, .pl (.num 0), .pls [.num 0], .row 7, .pl (.num 0), .pls [.num 0], .row 8, .pl (.num 0), .pl (.num 1), .pls [.num 0, .num 1], .row 9, .pl (.num 0), .pl (.num 1), .pl (.num 2), .pls [.num 0, .num 1, .num 2], .row 10, .pl (.sign), .pl (.text), .pls [.sign, .text], .row 11, .tab, .tab]
def rowV (i : Nat) (v : Value) (w : World) : Prop := KS.V w (rowKinds.getD i .tab) v
theorem plsV_of {w : World} {ps : List Pl} {vs : List Value} {cs : Array Value} (hl : vs.length = ps.length) (hcs : cs = (vs.flatMap fun x => x.cells.toList).toArray) (h : ∀ (i : Nat) p x, ps[i]? = some p → vs[i]? = some x → PlV w p x) :
    PlsV (w.alloc (.cells cs 92)) ps (.slice (some ⟨w.heap.size, 0, none⟩) ps.length ps.length) := by
  subst hcs
  exact ⟨w.heap.size, vs, (0, 0), rfl, heap_alloc_new _ _, hl, fun i p x hp hx => (h i p x hp hx).grow (chg_alloc (Chg.refl _ _) _)⟩
theorem tabV_of {w : World} {vs : List Value} {cs : Array Value} (hl : vs.length = 12) (hcs : cs = (vs.flatMap fun x => x.cells.toList).toArray) (h : ∀ (i : Nat) r x, stepRows[i]? = some r → vs[i]? = some x → RowV w r x) :
    TabV (w.alloc (.cells cs 85)) (.slice (some ⟨w.heap.size, 0, none⟩) 12 12) := by
  subst hcs
  exact ⟨w.heap.size, vs, (0, 0), rfl, heap_alloc_new _ _, hl, fun i r x hr hx => (h i r x hr hx).grow (chg_alloc (Chg.refl _ _) _)⟩
theorem load_place {W w : World} {b : Nat} {z : Nat × Nat} {x y u : Value} (hc : Chg Noth W w) (hb : W.heap[b]? = some (.cells #[x, y, u] 92 z)) :
    (Instr.loadAt 92 (.pointer (some ⟨b, 0, none⟩))).run Tryd.prog w = .ok (.agg #[x, y, u]) w := by
  have hb' := blk_grow hc hb
  have c0 : w.cell? ⟨b, 0, none⟩ = some x := (cell_of_row _ _ 0 _ _ _ hb').trans rfl
  have c1 : w.cell? ⟨b, 1, none⟩ = some y := (cell_of_row _ _ 1 _ _ _ hb').trans rfl
  have c2 : w.cell? ⟨b, 2, none⟩ = some u := (cell_of_row _ _ 2 _ _ _ hb').trans rfl
  simp [go_sem, c0, c1, c2]
theorem three_0 (w : World) (x y u : Value) (t : TypeId) (o2 o3 : Obj) : (((w.alloc (.cells #[x, y, u] t)).alloc o2).alloc o3).heap[w.heap.size]? = some (.cells #[x, y, u] t (0, 0)) :=
  (Below.heap_alloc _ _ _ (by simp; omega)).trans ((Below.heap_alloc _ _ _ (by simp)).trans (heap_alloc_new _ _))
theorem three_1 (w : World) (x y u : Value) (t : TypeId) (o1 o3 : Obj) : (((w.alloc o1).alloc (.cells #[x, y, u] t)).alloc o3).heap[w.heap.size + 1]? = some (.cells #[x, y, u] t (0, 0)) :=
  (Below.heap_alloc _ _ _ (by simp)).trans (heap_hs _ _ (w.heap.size + 1))
theorem three_2 (w : World) (x y u : Value) (t : TypeId) (o1 o2 : Obj) : (((w.alloc o1).alloc o2).alloc (.cells #[x, y, u] t)).heap[w.heap.size + 1 + 1]? = some (.cells #[x, y, u] t (0, 0)) := heap_hs _ _ (w.heap.size + 1 + 1)
theorem rows_v (w : World) : Calls Tryd.prog 30 #[] w (fun e w' => ∃ v, e = .returned v ∧ Chg Noth w w' ∧ TabV w' v) := by
  go_enter Tryd.func30, Tryd.ntmps30
  go_wp2_with fail
  go_at_call 44
  refine (number_v 0 _).mono ?_
  rintro e w1 ⟨v1, rfl, c1, p1⟩
  obtain ⟨a1, a2, a3, a4, rfl, h1, h2⟩ := id p1
  go_wp2_with fail
  go_at_call 44
  refine (number_v 1 _).mono ?_
  rintro e w2 ⟨v2, rfl, c2, p2⟩
  obtain ⟨b1, b2, b3, b4, rfl, h3, h4⟩ := id p2
  go_wp2_with fail
  go_at_call 44
  refine (number_v 2 _).mono ?_
  rintro e w3 ⟨v3, rfl, c3, p3⟩
  obtain ⟨d1, d2, d3, d4, rfl, h5, h6⟩ := id p3
  replace p1 := p1.grow (c2.trans c3 (fun _ _ h => h))
  replace p2 := p2.grow c3
  clear h1 h2 h3 h4 h5 h6
  have c : Chg Noth w w3 := (c1.trans c2 (fun _ _ h => h)).trans c3 (fun _ _ h => h)
  clear c1 c2 c3
  go_wp2_with fail
  have hcW : ∀ X Y Z, Chg Noth w3 (((w3.alloc X).alloc Y).alloc Z) := fun X Y Z => chg_alloc (chg_alloc (chg_alloc (Chg.refl _ _) _) _) _
  have hb0 := fun x y u o2 o3 => three_0 w3 x y u 92 o2 o3
  have hb1 := fun x y u o1 o3 => three_1 w3 x y u 92 o1 o3
  have hb2 := fun x y u o1 o2 => three_2 w3 x y u 92 o1 o2
  replace p1 := fun X Y Z => p1.grow (hcW X Y Z)
  replace p2 := fun X Y Z => p2.grow (hcW X Y Z)
  replace p3 := fun X Y Z => p3.grow (hcW X Y Z)
  refine wp_region_steps 49 [(1, .pointer (some ⟨w3.heap.size, 0, none⟩)), (2, .pointer (some ⟨w3.heap.size + 1, 0, none⟩)), (3, .pointer (some ⟨w3.heap.size + 1 + 1, 0, none⟩))] rowV (by kernel_rfl) (by kernel_rfl) rfl ?_ (fun i v w w' h hc => KS.V.grow hc h) ?_ ?_
  · simp only [List.mem_cons, List.not_mem_nil, or_false]
    rintro _ (rfl | rfl | rfl)
    · rfl
    · rfl
    · rfl
  · refine ⟨?_, ?_⟩
    · intro ev w hc e1 e2 e3 hd
      simp [execOp, go_sem, e2]
      exact ⟨rfl, sign_v w⟩
    refine ⟨?_, ?_⟩
    · intro ev w hc e1 e2 e3 hd
      have d0 : PlV w (.sign) (ev (.tmp 7)) := hd 0 7 (by kernel_rfl) (by kernel_rfl)
      obtain ⟨x0', y0', u0', h0⟩ := d0.parts
      rw [h0] at d0
      simp [execOp, go_sem, h0]
      refine ⟨chg_alloc (Chg.refl _ _) _, plsV_of (ps := [.sign]) (vs := [.agg #[x0', y0', u0']]) rfl rfl ?_⟩
      intro i p x hp hx
      rcases i with _ | i
      · simp only [List.getElem?_cons_zero, List.getElem?_cons_succ, Option.some.injEq] at hp hx; subst hp; subst hx; exact d0
      · simp at hp
    refine ⟨?_, ?_⟩
    · intro ev w hc e1 e2 e3 hd
      have d : PlsV w [.sign] (ev (.tmp 8)) := hd 1 8 (by kernel_rfl) (by kernel_rfl)
      have d' := d
      obtain ⟨g, vs, z, h, _⟩ := d'
      rw [h] at d
      simp [execOp, go_sem, h, e1]
      exact ⟨Chg.refl _ _, _, rfl, d⟩
    refine ⟨?_, ?_⟩
    · intro ev w hc e1 e2 e3 hd
      simp [execOp, go_sem, e2]
      exact ⟨rfl, sign_v w⟩
    refine ⟨?_, ?_⟩
    · intro ev w hc e1 e2 e3 hd
      have d0 : PlV w (.sign) (ev (.tmp 10)) := hd 3 10 (by kernel_rfl) (by kernel_rfl)
      obtain ⟨x0', y0', u0', h0⟩ := d0.parts
      rw [h0] at d0
      simp [execOp, go_sem, h0]
      refine ⟨chg_alloc (Chg.refl _ _) _, plsV_of (ps := [.sign]) (vs := [.agg #[x0', y0', u0']]) rfl rfl ?_⟩
      intro i p x hp hx
      rcases i with _ | i
      · simp only [List.getElem?_cons_zero, List.getElem?_cons_succ, Option.some.injEq] at hp hx; subst hp; subst hx; exact d0
      · simp at hp
    refine ⟨?_, ?_⟩
    · intro ev w hc e1 e2 e3 hd
      have d : PlsV w [.sign] (ev (.tmp 11)) := hd 4 11 (by kernel_rfl) (by kernel_rfl)
      have d' := d
      obtain ⟨g, vs, z, h, _⟩ := d'
      rw [h] at d
      simp [execOp, go_sem, h, e1]
      exact ⟨Chg.refl _ _, _, rfl, d⟩
    refine ⟨?_, ?_⟩
    · intro ev w hc e1 e2 e3 hd
      simp [execOp, go_sem, e2]
      exact ⟨rfl, sign_v w⟩
    refine ⟨?_, ?_⟩
    · intro ev w hc e1 e2 e3 hd
      have d0 : PlV w (.sign) (ev (.tmp 13)) := hd 6 13 (by kernel_rfl) (by kernel_rfl)
      obtain ⟨x0', y0', u0', h0⟩ := d0.parts
      rw [h0] at d0
      simp [execOp, go_sem, h0]
      refine ⟨chg_alloc (Chg.refl _ _) _, plsV_of (ps := [.sign]) (vs := [.agg #[x0', y0', u0']]) rfl rfl ?_⟩
      intro i p x hp hx
      rcases i with _ | i
      · simp only [List.getElem?_cons_zero, List.getElem?_cons_succ, Option.some.injEq] at hp hx; subst hp; subst hx; exact d0
      · simp at hp
    refine ⟨?_, ?_⟩
    · intro ev w hc e1 e2 e3 hd
      have d : PlsV w [.sign] (ev (.tmp 14)) := hd 7 14 (by kernel_rfl) (by kernel_rfl)
      have d' := d
      obtain ⟨g, vs, z, h, _⟩ := d'
      rw [h] at d
      simp [execOp, go_sem, h, e1]
      exact ⟨Chg.refl _ _, _, rfl, d⟩
    refine ⟨?_, ?_⟩
    · intro ev w hc e1 e2 e3 hd
      simp [execOp, go_sem, e2]
      exact ⟨rfl, sign_v w⟩
    refine ⟨?_, ?_⟩
    · intro ev w hc e1 e2 e3 hd
      have h : ev (.tmp 2) = _ := e3 (2, .pointer (some ⟨w3.heap.size + 1, 0, none⟩)) (by simp)
      simp only [execOp, h, load_place hc (hb1 _ _ _ _ _), Sem.run_bind, Sem.run_pure, Result.andThen_ok]
      exact ⟨Chg.refl _ _, PlV.grow hc (p2 _ _ _)⟩
    refine ⟨?_, ?_⟩
    · intro ev w hc e1 e2 e3 hd
      have d0 : PlV w (.sign) (ev (.tmp 16)) := hd 9 16 (by kernel_rfl) (by kernel_rfl)
      obtain ⟨x0', y0', u0', h0⟩ := d0.parts
      rw [h0] at d0
      have d1 : PlV w (.num 1) (ev (.tmp 17)) := hd 10 17 (by kernel_rfl) (by kernel_rfl)
      obtain ⟨x1', y1', u1', h1⟩ := d1.parts
      rw [h1] at d1
      simp [execOp, go_sem, h0, h1]
      refine ⟨chg_alloc (Chg.refl _ _) _, plsV_of (ps := [.sign, .num 1]) (vs := [.agg #[x0', y0', u0'], .agg #[x1', y1', u1']]) rfl rfl ?_⟩
      intro i p x hp hx
      rcases i with _ | i
      · simp only [List.getElem?_cons_zero, List.getElem?_cons_succ, Option.some.injEq] at hp hx; subst hp; subst hx; exact d0
      rcases i with _ | i
      · simp only [List.getElem?_cons_zero, List.getElem?_cons_succ, Option.some.injEq] at hp hx; subst hp; subst hx; exact d1
      · simp at hp
    refine ⟨?_, ?_⟩
    · intro ev w hc e1 e2 e3 hd
      have d : PlsV w [.sign, .num 1] (ev (.tmp 18)) := hd 11 18 (by kernel_rfl) (by kernel_rfl)
      have d' := d
      obtain ⟨g, vs, z, h, _⟩ := d'
      rw [h] at d
      simp [execOp, go_sem, h, e1]
      exact ⟨Chg.refl _ _, _, rfl, d⟩
    refine ⟨?_, ?_⟩
    · intro ev w hc e1 e2 e3 hd
      have h : ev (.tmp 1) = _ := e3 (1, .pointer (some ⟨w3.heap.size, 0, none⟩)) (by simp)
      simp only [execOp, h, load_place hc (hb0 _ _ _ _ _), Sem.run_bind, Sem.run_pure, Result.andThen_ok]
      exact ⟨Chg.refl _ _, PlV.grow hc (p1 _ _ _)⟩
    refine ⟨?_, ?_⟩
    · intro ev w hc e1 e2 e3 hd
      have d0 : PlV w (.num 0) (ev (.tmp 20)) := hd 13 20 (by kernel_rfl) (by kernel_rfl)
      obtain ⟨x0', y0', u0', h0⟩ := d0.parts
      rw [h0] at d0
      simp [execOp, go_sem, h0]
      refine ⟨chg_alloc (Chg.refl _ _) _, plsV_of (ps := [.num 0]) (vs := [.agg #[x0', y0', u0']]) rfl rfl ?_⟩
      intro i p x hp hx
      rcases i with _ | i
      · simp only [List.getElem?_cons_zero, List.getElem?_cons_succ, Option.some.injEq] at hp hx; subst hp; subst hx; exact d0
      · simp at hp
    refine ⟨?_, ?_⟩
    · intro ev w hc e1 e2 e3 hd
      have d : PlsV w [.num 0] (ev (.tmp 21)) := hd 14 21 (by kernel_rfl) (by kernel_rfl)
      have d' := d
      obtain ⟨g, vs, z, h, _⟩ := d'
      rw [h] at d
      simp [execOp, go_sem, h, e1]
      exact ⟨Chg.refl _ _, _, rfl, d⟩
    refine ⟨?_, ?_⟩
    · intro ev w hc e1 e2 e3 hd
      have h : ev (.tmp 1) = _ := e3 (1, .pointer (some ⟨w3.heap.size, 0, none⟩)) (by simp)
      simp only [execOp, h, load_place hc (hb0 _ _ _ _ _), Sem.run_bind, Sem.run_pure, Result.andThen_ok]
      exact ⟨Chg.refl _ _, PlV.grow hc (p1 _ _ _)⟩
    refine ⟨?_, ?_⟩
    · intro ev w hc e1 e2 e3 hd
      have d0 : PlV w (.num 0) (ev (.tmp 23)) := hd 16 23 (by kernel_rfl) (by kernel_rfl)
      obtain ⟨x0', y0', u0', h0⟩ := d0.parts
      rw [h0] at d0
      simp [execOp, go_sem, h0]
      refine ⟨chg_alloc (Chg.refl _ _) _, plsV_of (ps := [.num 0]) (vs := [.agg #[x0', y0', u0']]) rfl rfl ?_⟩
      intro i p x hp hx
      rcases i with _ | i
      · simp only [List.getElem?_cons_zero, List.getElem?_cons_succ, Option.some.injEq] at hp hx; subst hp; subst hx; exact d0
      · simp at hp
    refine ⟨?_, ?_⟩
    · intro ev w hc e1 e2 e3 hd
      have d : PlsV w [.num 0] (ev (.tmp 24)) := hd 17 24 (by kernel_rfl) (by kernel_rfl)
      have d' := d
      obtain ⟨g, vs, z, h, _⟩ := d'
      rw [h] at d
      simp [execOp, go_sem, h, e1]
      exact ⟨Chg.refl _ _, _, rfl, d⟩
    refine ⟨?_, ?_⟩
    · intro ev w hc e1 e2 e3 hd
      have h : ev (.tmp 1) = _ := e3 (1, .pointer (some ⟨w3.heap.size, 0, none⟩)) (by simp)
      simp only [execOp, h, load_place hc (hb0 _ _ _ _ _), Sem.run_bind, Sem.run_pure, Result.andThen_ok]
      exact ⟨Chg.refl _ _, PlV.grow hc (p1 _ _ _)⟩
    refine ⟨?_, ?_⟩
    · intro ev w hc e1 e2 e3 hd
      have d0 : PlV w (.num 0) (ev (.tmp 26)) := hd 19 26 (by kernel_rfl) (by kernel_rfl)
      obtain ⟨x0', y0', u0', h0⟩ := d0.parts
      rw [h0] at d0
      simp [execOp, go_sem, h0]
      refine ⟨chg_alloc (Chg.refl _ _) _, plsV_of (ps := [.num 0]) (vs := [.agg #[x0', y0', u0']]) rfl rfl ?_⟩
      intro i p x hp hx
      rcases i with _ | i
      · simp only [List.getElem?_cons_zero, List.getElem?_cons_succ, Option.some.injEq] at hp hx; subst hp; subst hx; exact d0
      · simp at hp
    refine ⟨?_, ?_⟩
    · intro ev w hc e1 e2 e3 hd
      have d : PlsV w [.num 0] (ev (.tmp 27)) := hd 20 27 (by kernel_rfl) (by kernel_rfl)
      have d' := d
      obtain ⟨g, vs, z, h, _⟩ := d'
      rw [h] at d
      simp [execOp, go_sem, h, e1]
      exact ⟨Chg.refl _ _, _, rfl, d⟩
    refine ⟨?_, ?_⟩
    · intro ev w hc e1 e2 e3 hd
      have h : ev (.tmp 1) = _ := e3 (1, .pointer (some ⟨w3.heap.size, 0, none⟩)) (by simp)
      simp only [execOp, h, load_place hc (hb0 _ _ _ _ _), Sem.run_bind, Sem.run_pure, Result.andThen_ok]
      exact ⟨Chg.refl _ _, PlV.grow hc (p1 _ _ _)⟩
    refine ⟨?_, ?_⟩
    · intro ev w hc e1 e2 e3 hd
      have d0 : PlV w (.num 0) (ev (.tmp 29)) := hd 22 29 (by kernel_rfl) (by kernel_rfl)
      obtain ⟨x0', y0', u0', h0⟩ := d0.parts
      rw [h0] at d0
      simp [execOp, go_sem, h0]
      refine ⟨chg_alloc (Chg.refl _ _) _, plsV_of (ps := [.num 0]) (vs := [.agg #[x0', y0', u0']]) rfl rfl ?_⟩
      intro i p x hp hx
      rcases i with _ | i
      · simp only [List.getElem?_cons_zero, List.getElem?_cons_succ, Option.some.injEq] at hp hx; subst hp; subst hx; exact d0
      · simp at hp
    refine ⟨?_, ?_⟩
    · intro ev w hc e1 e2 e3 hd
      have d : PlsV w [.num 0] (ev (.tmp 30)) := hd 23 30 (by kernel_rfl) (by kernel_rfl)
      have d' := d
      obtain ⟨g, vs, z, h, _⟩ := d'
      rw [h] at d
      simp [execOp, go_sem, h, e1]
      exact ⟨Chg.refl _ _, _, rfl, d⟩
    refine ⟨?_, ?_⟩
    · intro ev w hc e1 e2 e3 hd
      have h : ev (.tmp 1) = _ := e3 (1, .pointer (some ⟨w3.heap.size, 0, none⟩)) (by simp)
      simp only [execOp, h, load_place hc (hb0 _ _ _ _ _), Sem.run_bind, Sem.run_pure, Result.andThen_ok]
      exact ⟨Chg.refl _ _, PlV.grow hc (p1 _ _ _)⟩
    refine ⟨?_, ?_⟩
    · intro ev w hc e1 e2 e3 hd
      have d0 : PlV w (.num 0) (ev (.tmp 32)) := hd 25 32 (by kernel_rfl) (by kernel_rfl)
      obtain ⟨x0', y0', u0', h0⟩ := d0.parts
      rw [h0] at d0
      simp [execOp, go_sem, h0]
      refine ⟨chg_alloc (Chg.refl _ _) _, plsV_of (ps := [.num 0]) (vs := [.agg #[x0', y0', u0']]) rfl rfl ?_⟩
      intro i p x hp hx
      rcases i with _ | i
      · simp only [List.getElem?_cons_zero, List.getElem?_cons_succ, Option.some.injEq] at hp hx; subst hp; subst hx; exact d0
      · simp at hp
    refine ⟨?_, ?_⟩
    · intro ev w hc e1 e2 e3 hd
      have d : PlsV w [.num 0] (ev (.tmp 33)) := hd 26 33 (by kernel_rfl) (by kernel_rfl)
      have d' := d
      obtain ⟨g, vs, z, h, _⟩ := d'
      rw [h] at d
      simp [execOp, go_sem, h, e1]
      exact ⟨Chg.refl _ _, _, rfl, d⟩
    refine ⟨?_, ?_⟩
    · intro ev w hc e1 e2 e3 hd
      have h : ev (.tmp 1) = _ := e3 (1, .pointer (some ⟨w3.heap.size, 0, none⟩)) (by simp)
      simp only [execOp, h, load_place hc (hb0 _ _ _ _ _), Sem.run_bind, Sem.run_pure, Result.andThen_ok]
      exact ⟨Chg.refl _ _, PlV.grow hc (p1 _ _ _)⟩
    refine ⟨?_, ?_⟩
    · intro ev w hc e1 e2 e3 hd
      have h : ev (.tmp 2) = _ := e3 (2, .pointer (some ⟨w3.heap.size + 1, 0, none⟩)) (by simp)
      simp only [execOp, h, load_place hc (hb1 _ _ _ _ _), Sem.run_bind, Sem.run_pure, Result.andThen_ok]
      exact ⟨Chg.refl _ _, PlV.grow hc (p2 _ _ _)⟩
    refine ⟨?_, ?_⟩
    · intro ev w hc e1 e2 e3 hd
      have d0 : PlV w (.num 0) (ev (.tmp 35)) := hd 28 35 (by kernel_rfl) (by kernel_rfl)
      obtain ⟨x0', y0', u0', h0⟩ := d0.parts
      rw [h0] at d0
      have d1 : PlV w (.num 1) (ev (.tmp 36)) := hd 29 36 (by kernel_rfl) (by kernel_rfl)
      obtain ⟨x1', y1', u1', h1⟩ := d1.parts
      rw [h1] at d1
      simp [execOp, go_sem, h0, h1]
      refine ⟨chg_alloc (Chg.refl _ _) _, plsV_of (ps := [.num 0, .num 1]) (vs := [.agg #[x0', y0', u0'], .agg #[x1', y1', u1']]) rfl rfl ?_⟩
      intro i p x hp hx
      rcases i with _ | i
      · simp only [List.getElem?_cons_zero, List.getElem?_cons_succ, Option.some.injEq] at hp hx; subst hp; subst hx; exact d0
      rcases i with _ | i
      · simp only [List.getElem?_cons_zero, List.getElem?_cons_succ, Option.some.injEq] at hp hx; subst hp; subst hx; exact d1
      · simp at hp
    refine ⟨?_, ?_⟩
    · intro ev w hc e1 e2 e3 hd
      have d : PlsV w [.num 0, .num 1] (ev (.tmp 37)) := hd 30 37 (by kernel_rfl) (by kernel_rfl)
      have d' := d
      obtain ⟨g, vs, z, h, _⟩ := d'
      rw [h] at d
      simp [execOp, go_sem, h, e1]
      exact ⟨Chg.refl _ _, _, rfl, d⟩
    refine ⟨?_, ?_⟩
    · intro ev w hc e1 e2 e3 hd
      have h : ev (.tmp 1) = _ := e3 (1, .pointer (some ⟨w3.heap.size, 0, none⟩)) (by simp)
      simp only [execOp, h, load_place hc (hb0 _ _ _ _ _), Sem.run_bind, Sem.run_pure, Result.andThen_ok]
      exact ⟨Chg.refl _ _, PlV.grow hc (p1 _ _ _)⟩
    refine ⟨?_, ?_⟩
    · intro ev w hc e1 e2 e3 hd
      have h : ev (.tmp 2) = _ := e3 (2, .pointer (some ⟨w3.heap.size + 1, 0, none⟩)) (by simp)
      simp only [execOp, h, load_place hc (hb1 _ _ _ _ _), Sem.run_bind, Sem.run_pure, Result.andThen_ok]
      exact ⟨Chg.refl _ _, PlV.grow hc (p2 _ _ _)⟩
    refine ⟨?_, ?_⟩
    · intro ev w hc e1 e2 e3 hd
      have h : ev (.tmp 3) = _ := e3 (3, .pointer (some ⟨w3.heap.size + 1 + 1, 0, none⟩)) (by simp)
      simp only [execOp, h, load_place hc (hb2 _ _ _ _ _), Sem.run_bind, Sem.run_pure, Result.andThen_ok]
      exact ⟨Chg.refl _ _, PlV.grow hc (p3 _ _ _)⟩
    refine ⟨?_, ?_⟩
    · intro ev w hc e1 e2 e3 hd
      have d0 : PlV w (.num 0) (ev (.tmp 39)) := hd 32 39 (by kernel_rfl) (by kernel_rfl)
      obtain ⟨x0', y0', u0', h0⟩ := d0.parts
      rw [h0] at d0
      have d1 : PlV w (.num 1) (ev (.tmp 40)) := hd 33 40 (by kernel_rfl) (by kernel_rfl)
      obtain ⟨x1', y1', u1', h1⟩ := d1.parts
      rw [h1] at d1
      have d2 : PlV w (.num 2) (ev (.tmp 41)) := hd 34 41 (by kernel_rfl) (by kernel_rfl)
      obtain ⟨x2', y2', u2', h2⟩ := d2.parts
      rw [h2] at d2
      simp [execOp, go_sem, h0, h1, h2]
      refine ⟨chg_alloc (Chg.refl _ _) _, plsV_of (ps := [.num 0, .num 1, .num 2]) (vs := [.agg #[x0', y0', u0'], .agg #[x1', y1', u1'], .agg #[x2', y2', u2']]) rfl rfl ?_⟩
      intro i p x hp hx
      rcases i with _ | i
      · simp only [List.getElem?_cons_zero, List.getElem?_cons_succ, Option.some.injEq] at hp hx; subst hp; subst hx; exact d0
      rcases i with _ | i
      · simp only [List.getElem?_cons_zero, List.getElem?_cons_succ, Option.some.injEq] at hp hx; subst hp; subst hx; exact d1
      rcases i with _ | i
      · simp only [List.getElem?_cons_zero, List.getElem?_cons_succ, Option.some.injEq] at hp hx; subst hp; subst hx; exact d2
      · simp at hp
    refine ⟨?_, ?_⟩
    · intro ev w hc e1 e2 e3 hd
      have d : PlsV w [.num 0, .num 1, .num 2] (ev (.tmp 42)) := hd 35 42 (by kernel_rfl) (by kernel_rfl)
      have d' := d
      obtain ⟨g, vs, z, h, _⟩ := d'
      rw [h] at d
      simp [execOp, go_sem, h, e1]
      exact ⟨Chg.refl _ _, _, rfl, d⟩
    refine ⟨?_, ?_⟩
    · intro ev w hc e1 e2 e3 hd
      simp [execOp, go_sem, e2]
      exact ⟨rfl, sign_v w⟩
    refine ⟨?_, ?_⟩
    · intro ev w hc e1 e2 e3 hd
      simp [execOp, go_sem, e2]
      exact ⟨rfl, text_v w⟩
    refine ⟨?_, ?_⟩
    · intro ev w hc e1 e2 e3 hd
      have d0 : PlV w (.sign) (ev (.tmp 44)) := hd 37 44 (by kernel_rfl) (by kernel_rfl)
      obtain ⟨x0', y0', u0', h0⟩ := d0.parts
      rw [h0] at d0
      have d1 : PlV w (.text) (ev (.tmp 45)) := hd 38 45 (by kernel_rfl) (by kernel_rfl)
      obtain ⟨x1', y1', u1', h1⟩ := d1.parts
      rw [h1] at d1
      simp [execOp, go_sem, h0, h1]
      refine ⟨chg_alloc (Chg.refl _ _) _, plsV_of (ps := [.sign, .text]) (vs := [.agg #[x0', y0', u0'], .agg #[x1', y1', u1']]) rfl rfl ?_⟩
      intro i p x hp hx
      rcases i with _ | i
      · simp only [List.getElem?_cons_zero, List.getElem?_cons_succ, Option.some.injEq] at hp hx; subst hp; subst hx; exact d0
      rcases i with _ | i
      · simp only [List.getElem?_cons_zero, List.getElem?_cons_succ, Option.some.injEq] at hp hx; subst hp; subst hx; exact d1
      · simp at hp
    refine ⟨?_, ?_⟩
    · intro ev w hc e1 e2 e3 hd
      have d : PlsV w [.sign, .text] (ev (.tmp 46)) := hd 39 46 (by kernel_rfl) (by kernel_rfl)
      have d' := d
      obtain ⟨g, vs, z, h, _⟩ := d'
      rw [h] at d
      simp [execOp, go_sem, h, e1]
      exact ⟨Chg.refl _ _, _, rfl, d⟩
    refine ⟨?_, ?_⟩
    · intro ev w hc e1 e2 e3 hd
      have d0 : RowV w (stepRows.getD 0 ([], 0, [])) (ev (.tmp 9)) := hd 2 9 (by kernel_rfl) (by kernel_rfl)
      obtain ⟨q0, h0, k0⟩ := d0
      obtain ⟨g0, vs0, z0, s0, t0⟩ := id k0
      rw [s0] at h0 k0
      have d1 : RowV w (stepRows.getD 1 ([], 0, [])) (ev (.tmp 12)) := hd 5 12 (by kernel_rfl) (by kernel_rfl)
      obtain ⟨q1, h1, k1⟩ := d1
      obtain ⟨g1, vs1, z1, s1, t1⟩ := id k1
      rw [s1] at h1 k1
      have d2 : RowV w (stepRows.getD 2 ([], 0, [])) (ev (.tmp 15)) := hd 8 15 (by kernel_rfl) (by kernel_rfl)
      obtain ⟨q2, h2, k2⟩ := d2
      obtain ⟨g2, vs2, z2, s2, t2⟩ := id k2
      rw [s2] at h2 k2
      have d3 : RowV w (stepRows.getD 3 ([], 0, [])) (ev (.tmp 19)) := hd 12 19 (by kernel_rfl) (by kernel_rfl)
      obtain ⟨q3, h3, k3⟩ := d3
      obtain ⟨g3, vs3, z3, s3, t3⟩ := id k3
      rw [s3] at h3 k3
      have d4 : RowV w (stepRows.getD 4 ([], 0, [])) (ev (.tmp 22)) := hd 15 22 (by kernel_rfl) (by kernel_rfl)
      obtain ⟨q4, h4, k4⟩ := d4
      obtain ⟨g4, vs4, z4, s4, t4⟩ := id k4
      rw [s4] at h4 k4
      have d5 : RowV w (stepRows.getD 5 ([], 0, [])) (ev (.tmp 25)) := hd 18 25 (by kernel_rfl) (by kernel_rfl)
      obtain ⟨q5, h5, k5⟩ := d5
      obtain ⟨g5, vs5, z5, s5, t5⟩ := id k5
      rw [s5] at h5 k5
      have d6 : RowV w (stepRows.getD 6 ([], 0, [])) (ev (.tmp 28)) := hd 21 28 (by kernel_rfl) (by kernel_rfl)
      obtain ⟨q6, h6, k6⟩ := d6
      obtain ⟨g6, vs6, z6, s6, t6⟩ := id k6
      rw [s6] at h6 k6
      have d7 : RowV w (stepRows.getD 7 ([], 0, [])) (ev (.tmp 31)) := hd 24 31 (by kernel_rfl) (by kernel_rfl)
      obtain ⟨q7, h7, k7⟩ := d7
      obtain ⟨g7, vs7, z7, s7, t7⟩ := id k7
      rw [s7] at h7 k7
      have d8 : RowV w (stepRows.getD 8 ([], 0, [])) (ev (.tmp 34)) := hd 27 34 (by kernel_rfl) (by kernel_rfl)
      obtain ⟨q8, h8, k8⟩ := d8
      obtain ⟨g8, vs8, z8, s8, t8⟩ := id k8
      rw [s8] at h8 k8
      have d9 : RowV w (stepRows.getD 9 ([], 0, [])) (ev (.tmp 38)) := hd 31 38 (by kernel_rfl) (by kernel_rfl)
      obtain ⟨q9, h9, k9⟩ := d9
      obtain ⟨g9, vs9, z9, s9, t9⟩ := id k9
      rw [s9] at h9 k9
      have d10 : RowV w (stepRows.getD 10 ([], 0, [])) (ev (.tmp 43)) := hd 36 43 (by kernel_rfl) (by kernel_rfl)
      obtain ⟨q10, h10, k10⟩ := d10
      obtain ⟨g10, vs10, z10, s10, t10⟩ := id k10
      rw [s10] at h10 k10
      have d11 : RowV w (stepRows.getD 11 ([], 0, [])) (ev (.tmp 47)) := hd 40 47 (by kernel_rfl) (by kernel_rfl)
      obtain ⟨q11, h11, k11⟩ := d11
      obtain ⟨g11, vs11, z11, s11, t11⟩ := id k11
      rw [s11] at h11 k11
      simp only [stepRows, List.getD_eq_getElem?_getD, List.getElem?_cons_zero, List.getElem?_cons_succ, Option.getD_some] at h0 h1 h2 h3 h4 h5 h6 h7 h8 h9 h10 h11
      simp [execOp, go_sem, h0, h1, h2, h3, h4, h5, h6, h7, h8, h9, h10, h11]
      refine ⟨chg_alloc (Chg.refl _ _) _, tabV_of (vs := [ev (.tmp 9), ev (.tmp 12), ev (.tmp 15), ev (.tmp 19), ev (.tmp 22), ev (.tmp 25), ev (.tmp 28), ev (.tmp 31), ev (.tmp 34), ev (.tmp 38), ev (.tmp 43), ev (.tmp 47)]) rfl (by simp [Value.cells, h0, h1, h2, h3, h4, h5, h6, h7, h8, h9, h10, h11]) ?_⟩
      intro i r x hr hx
      rcases i with _ | i
      · simp only [stepRows, List.getElem?_cons_zero, List.getElem?_cons_succ, Option.some.injEq] at hr hx; subst hr; subst hx; exact ⟨_, h0, k0⟩
      rcases i with _ | i
      · simp only [stepRows, List.getElem?_cons_zero, List.getElem?_cons_succ, Option.some.injEq] at hr hx; subst hr; subst hx; exact ⟨_, h1, k1⟩
      rcases i with _ | i
      · simp only [stepRows, List.getElem?_cons_zero, List.getElem?_cons_succ, Option.some.injEq] at hr hx; subst hr; subst hx; exact ⟨_, h2, k2⟩
      rcases i with _ | i
      · simp only [stepRows, List.getElem?_cons_zero, List.getElem?_cons_succ, Option.some.injEq] at hr hx; subst hr; subst hx; exact ⟨_, h3, k3⟩
      rcases i with _ | i
      · simp only [stepRows, List.getElem?_cons_zero, List.getElem?_cons_succ, Option.some.injEq] at hr hx; subst hr; subst hx; exact ⟨_, h4, k4⟩
      rcases i with _ | i
      · simp only [stepRows, List.getElem?_cons_zero, List.getElem?_cons_succ, Option.some.injEq] at hr hx; subst hr; subst hx; exact ⟨_, h5, k5⟩
      rcases i with _ | i
      · simp only [stepRows, List.getElem?_cons_zero, List.getElem?_cons_succ, Option.some.injEq] at hr hx; subst hr; subst hx; exact ⟨_, h6, k6⟩
      rcases i with _ | i
      · simp only [stepRows, List.getElem?_cons_zero, List.getElem?_cons_succ, Option.some.injEq] at hr hx; subst hr; subst hx; exact ⟨_, h7, k7⟩
      rcases i with _ | i
      · simp only [stepRows, List.getElem?_cons_zero, List.getElem?_cons_succ, Option.some.injEq] at hr hx; subst hr; subst hx; exact ⟨_, h8, k8⟩
      rcases i with _ | i
      · simp only [stepRows, List.getElem?_cons_zero, List.getElem?_cons_succ, Option.some.injEq] at hr hx; subst hr; subst hx; exact ⟨_, h9, k9⟩
      rcases i with _ | i
      · simp only [stepRows, List.getElem?_cons_zero, List.getElem?_cons_succ, Option.some.injEq] at hr hx; subst hr; subst hx; exact ⟨_, h10, k10⟩
      rcases i with _ | i
      · simp only [stepRows, List.getElem?_cons_zero, List.getElem?_cons_succ, Option.some.injEq] at hr hx; subst hr; subst hx; exact ⟨_, h11, k11⟩
      · simp [stepRows] at hr
    refine ⟨?_, ?_⟩
    · intro ev w hc e1 e2 e3 hd
      have d : TabV w (ev (.tmp 48)) := hd 41 48 (by kernel_rfl) (by kernel_rfl)
      exact ⟨Chg.refl _ _, d⟩
    exact trivial
  · intro a' w' hc hd _ _ h5
    have ht : TabV w' (a'.eval (.tmp 0)) := h5 42 0 (by kernel_rfl)
    have hcc : Chg Noth w w' := (c.trans (hcW _ _ _) (fun _ _ h => h)).trans hc (fun _ _ h => h)
    clear h5
    go_wp2_with fail
    refine bodyPost_ret (v := a'.eval (.tmp 0)) (by simp [results, Tryd.results30, go_sem]) hd ?_
    exact ⟨_, rfl, hcc, ht⟩
end Go.Proofs.YtkamjhhaghkdmaaDoor
