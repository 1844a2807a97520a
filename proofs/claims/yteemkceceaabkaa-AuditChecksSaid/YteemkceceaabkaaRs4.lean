/- Sets as rows of bools: Less. -/
import Derived.Test.YteemkceceaabkaaRx
import Derived.Deep.RegionLaw
import Derived.Deep.DeepCutAuto
set_option linter.unusedSimpArgs false
set_option linter.unusedVariables false
namespace Go.Ear
open Go.RowKit
/-- Block b is a row of n cells that may be written. -/
class RowN (n : Nat) (W : World) (b : Nat) (t : outParam TypeId) : Prop where
  row : ∃ z : Array Value, z.size = n ∧ W.heap[b]? = some (.cells z t (0, 0))
class HasSize (z : Array Value) (n : outParam Nat) : Prop where
  size : z.size = n
instance (a b c d : Value) : HasSize #[a, b, c, d] 4 := ⟨rfl⟩
abbrev RowAt (W : World) (b : Nat) (t : TypeId) : Prop := RowN 100 W b t
section
variable {W : World}
theorem RowN.lt {n b : Nat} {t : TypeId} (h : RowN n W b t) : b < W.heap.size := by
  obtain ⟨z, _, h⟩ := h.row
  exact (Array.getElem?_eq_some_iff.1 h).1
instance (z : Array Value) (t : TypeId) (b n : Nat) [h : HS W b] [k : HasSize z n] : RowN n (W.alloc (.cells z t)) b t := ⟨⟨z, k.size, by
  have e := heap_alloc_new W (.cells z t)
  rwa [h.eq] at e⟩⟩
instance (priority := low) (o : Obj) (n b : Nat) (t : TypeId) [h : RowN n W b t] : RowN n (W.alloc o) b t := ⟨by
  obtain ⟨z, hz, e⟩ := h.row
  exact ⟨z, hz, (Below.heap_alloc W o b h.lt).trans e⟩⟩
instance (g : Grows W) (n b : Nat) (t : TypeId) [h : RowN n W b t] : RowN n g.w b t := ⟨by
  obtain ⟨z, hz, e⟩ := h.row
  exact ⟨z, hz, (g.h.block b h.lt (fun e => e)).trans e⟩⟩
instance (n b : Nat) (t : TypeId) [h : RowN n W b t] : RowN n W.drew b t := ⟨h.row⟩
instance (m b n : Nat) (t : TypeId) [h : RowN m W b t] : RowN m (W.drewN n) b t := ⟨h.row⟩
theorem rowat_set (n b c o : Nat) (v : Value) (t : TypeId) (h : RowN n W b t) : RowN n (W.setCell ⟨c, o, none⟩ v) b t := by
  obtain ⟨z, hz, e⟩ := h.row
  by_cases hb : b = c
  · subst hb
    exact ⟨⟨z.setIfInBounds o v, by simpa using hz, heap_setCell_same _ _ _ _ _ _ e⟩⟩
  · exact ⟨⟨z, hz, (heap_set_far _ _ _ _ hb).trans e⟩⟩
theorem rowat_cells (n b c : Nat) (t : TypeId) : ∀ (vs : List Value) (o : Nat) (W : World), RowN n W b t → RowN n (W.setCells c o vs) b t
  | [], _, _, h => h
  | v :: vs, o, _, h => rowat_cells n b c t vs (o + 1) _ (rowat_set n b c o v t h)
instance (n b c o : Nat) (v : Value) (t : TypeId) [h : RowN n W b t] : RowN n (W.setCell ⟨c, o, none⟩ v) b t := rowat_set n b c o v t h
instance (n b c o : Nat) (vs : List Value) (t : TypeId) [h : RowN n W b t] : RowN n (W.setCells c o vs) b t := rowat_cells n b c t vs o W h
theorem size_cells (c : Nat) : ∀ (vs : List Value) (o : Nat) (W : World), (W.setCells c o vs).heap.size = W.heap.size
  | [], _, _ => rfl
  | v :: vs, o, W => (size_cells c vs (o + 1) _).trans (by simp [World.setCell])
instance (c o n : Nat) (vs : List Value) [h : HS W n] : HS (W.setCells c o vs) n := ⟨(size_cells c vs o W).trans h.eq⟩
instance (b c o : Nat) (vs : List Value) [h : Old b W] : Old b (W.setCells c o vs) := ⟨by rw [size_cells]; exact h.lt⟩
/-- What was stored as a whole row lies there. -/
theorem heap_cells_all (b : Nat) (t : TypeId) : ∀ (vs : List Value) (pre : List Value) (z : Array Value) (W : World), z.size = pre.length + vs.length → z.toList.take pre.length = pre → W.heap[b]? = some (.cells z t (0, 0)) →
    (W.setCells b pre.length vs).heap[b]? = some (.cells (pre ++ vs).toArray t (0, 0))
  | [], pre, z, W, hs, hp, h => by
    have e : z.toList = pre := by
      rw [← hp, List.take_of_length_le]
      simp only [Array.length_toList, hs, List.length_nil]
      omega
    simp only [World.setCells, List.append_nil]
    rw [h, ← e]
  | v :: vs, pre, z, W, hs, hp, h => by
    have h1 := heap_setCell_same W b pre.length z t v h
    have := heap_cells_all b t vs (pre ++ [v]) (z.setIfInBounds pre.length v) (W.setCell ⟨b, pre.length, none⟩ v) (by simp [hs]; omega) (by
      simp only [Array.toList_setIfInBounds, List.length_append, List.length_cons, List.length_nil]
      have hl : pre.length < z.toList.length := by simp [hs]
      rw [List.take_succ_eq_append_getElem (by simpa using hl)]
      rw [List.take_set_of_le (Nat.le_refl _), hp]
      simp) h1
    simpa [World.setCells] using this
theorem heap_cells_same {b : Nat} {t : TypeId} {z : Array Value} {vs : List Value} (h : W.heap[b]? = some (.cells z t (0, 0))) (hs : z.size = vs.length) : (W.setCells b 0 vs).heap[b]? = some (.cells vs.toArray t (0, 0)) := by
  simpa using heap_cells_all b t vs [] z W (by simpa using hs) (by simp) h
theorem heap_cells_far (b c : Nat) (hb : ¬ b = c) : ∀ (vs : List Value) (o : Nat) (W : World), (W.setCells c o vs).heap[b]? = W.heap[b]?
  | [], _, _ => rfl
  | v :: vs, o, W => (heap_cells_far b c hb vs (o + 1) _).trans (heap_set_far _ _ _ _ hb)
end
end Go.Ear
namespace Go.Proofs.Yteemkceceaabkaa
open Go.RowKit Go.Ear
set_option maxHeartbeats 4000000
set_option maxRecDepth 100000
set_option linter.unusedSimpArgs false
instance : HasSize Try.zeroCells105 100 := ⟨by rw [zeroRow]; exact rowc_size _⟩
theorem store_row (W : World) (b : Nat) (p : Nat → Bool) [h : RowAt W b 105] : (Instr.storeAt 105 (.pointer (some ⟨b, 0, none⟩)) (.agg (rowc p))).run Try.prog W = .ok () (W.setCells b 0 (rowc p).toList) := by
  obtain ⟨z, hz, e⟩ := h.row
  exact run_storeAt_mid W b 0 105 (rowc p) (by rw [rowc_size]; exact there_of_row e hz) (by rw [rowc_size]; exact infoRow) (rowc_one p)
theorem run_storeRow (W : World) (b : Nat) (p : Nat → Bool) [h : RowAt W b 105] : (storeCells ⟨b, 0, none⟩ (rowc p).toList).run Try.prog W = .ok () (W.setCells b 0 (rowc p).toList) := by
  obtain ⟨z, hz, e⟩ := h.row
  have ht : W.there b 0 100 := there_of_row e hz
  have := run_storeCells_cells (P := Try.prog) b 0 (rowc p).toList 0 W (fun j hj => by simpa using (ht j (by simpa [rowc_size] using hj)).1) (fun j hj => by simpa using (ht j (by simpa [rowc_size] using hj)).2)
    (fun v hv => (Array.all_eq_true_iff_forall_mem.1 (rowc_one p)) v (by simpa using hv))
  simpa using this
theorem heap_row (W : World) (b : Nat) (p : Nat → Bool) [h : RowAt W b 105] : (W.setCells b 0 (rowc p).toList).heap[b]? = some (.cells (rowc p) 105 (0, 0)) := by
  obtain ⟨z, hz, e⟩ := h.row
  have := heap_cells_same (vs := (rowc p).toList) e (by rw [hz, Array.length_toList, rowc_size])
  simpa using this
attribute [local go_sem] rowc_size run_storeRow
theorem lessR_any (s t : St) (hs : s.ok) (ht : t.ok) (w : World) : Calls Try.prog 58 #[s.v, t.v] w (Gr (St.make (fun i => s.bit i && !t.bit i) 100).v w) := by
  have h1 := fun W => row_any s hs W
  have h2 := fun W => row_any t ht W
  go_enter Try.func58, Try.ntmps58
  go_wp2
  go_cut [5, 6] (fun v5 v6 wr => ∃ b1 b2 : Nat, v5 = .pointer (some ⟨b1, 0, none⟩) ∧ v6 = .pointer (some ⟨b2, 0, none⟩) ∧ b1 ≠ b2 ∧ w.heap.size + 1 + 1 + 1 ≤ b1 ∧ w.heap.size + 1 + 1 + 1 ≤ b2 ∧ Chg Noth w wr ∧ RowN 4 wr (w.heap.size + 1 + 1) 74 ∧ wr.heap[b1]? = some (.cells (rowc s.bit) 105 (0, 0)) ∧ wr.heap[b2]? = some (.cells (rowc t.bit) 105 (0, 0)))
  case first =>
    go_region_law (first
      | (go_simp; go_at_call 57; (with_reducible refine (h1 _).mono ?_); rintro e w' ⟨rfl, g1, hg⟩; subst hg)
      | (go_simp; go_at_call 57; (with_reducible refine (h2 _).mono ?_); rintro e w' ⟨rfl, g2, hg⟩; subst hg))
    all_goals
      have hs1 := g1.h.size
      have hs2 := g2.h.size
      try simp at hs1
      try simp at hs2
      try (have hs3 := (g1.join g2).h.size; try simp at hs3)
      go_wp2_with fail
      go_meet
      refine ⟨_, _, rfl, rfl, by omega, by omega, by omega, (by repeat (with_reducible first | exact Chg.refl _ _ | refine chg_m ?_ _ | refine chg_g ?_ _ | refine chg_alloc ?_ _ | refine chg_drew ?_ | refine chg_drewN ?_ _ | refine chg_set ?_ _ _ _ | refine chg_cells _ _ _ ?_ (.inr (by omega)))), inferInstance, ?_, ?_⟩
      · first | with_reducible exact heap_row _ _ _ | (rw [heap_cells_far _ _ (by omega)]; with_reducible exact heap_row _ _ _)
      · first | with_reducible exact heap_row _ _ _ | (rw [heap_cells_far _ _ (by omega)]; with_reducible exact heap_row _ _ _)
  case rest =>
    obtain ⟨b1, b2, rfl, rfl, hne, hb1, hb2, hc, h4, h5, h6⟩ := hcut
    have mb1 : May b1 Noth w := ⟨.inr (by omega)⟩
    have HW := Lib.hid (And.intro hc (And.intro h4 (And.intro h5 h6)))
    clear hc h4 h5 h6
    go_wp2
    go_loopw [7] (fun i' wr => ∃ q : Nat, i' = .int .i64 q ∧ q ≤ 100 ∧ Chg Noth w wr ∧ RowN 4 wr (w.heap.size + 1 + 1) 74 ∧
      wr.heap[b1]? = some (.cells (rowc fun j => if j < q then s.bit j && !t.bit j else s.bit j) 105 (0, 0)) ∧ wr.heap[b2]? = some (.cells (rowc t.bit) 105 (0, 0))) (fun i' _ => 100 - (intOf i').toNat)
    case atStart =>
      obtain ⟨hc, h4, h5, h6⟩ := HW.out
      have e0 : (rowc fun j => if j < 0 then s.bit j && !t.bit j else s.bit j) = rowc s.bit := rowc_congr fun j _ => by simp
      exact ⟨0, rfl, by omega, hc, h4, by rw [e0]; exact h5, h6⟩
    case round =>
      clear HW
      obtain ⟨q, rfl, hq, hc, h4, h5, h6⟩ := hrel
      have j1 : Old b1 wr := ⟨(Array.getElem?_eq_some_iff.1 h5).1⟩
      have j2 : Old b2 wr := ⟨(Array.getElem?_eq_some_iff.1 h6).1⟩
      by_cases hlt : q < 100
      · have c5 : wr.cell? ⟨b1, q, none⟩ = some (.bool (s.bit q)) := by rw [cell_of_row _ _ _ _ _ _ h5, rowc_get _ hlt]; simp
        have c6 : wr.cell? ⟨b2, q, none⟩ = some (.bool (t.bit q)) := by rw [cell_of_row _ _ _ _ _ _ h6, rowc_get _ hlt]
        have f5 : wr.frozen? ⟨b1, q, none⟩ = false := frozen_of_row _ _ _ _ _ h5
        have k5 : HasCell wr b1 q := ⟨by rw [c5]; rfl⟩
        have hset := heap_setCell_same wr b1 q _ _ (.bool (s.bit q && !t.bit q)) h5
        rw [rowc_set _ _ _ hlt] at hset
        have e1 : (rowc fun j => if j = q then s.bit q && !t.bit q else if j < q then s.bit j && !t.bit j else s.bit j) = rowc fun j => if j < q + 1 then s.bit j && !t.bit j else s.bit j := rowc_congr fun j _ => by
          by_cases e : j = q
          · subst e; simp
          · rw [if_neg e]
            by_cases e2 : j < q
            · rw [if_pos e2, if_pos (by omega)]
            · rw [if_neg e2, if_neg (by omega)]
        rw [e1] at hset
        have hfar := (heap_set_far (W := wr) b1 q b2 (.bool (s.bit q && !t.bit q)) (Ne.symm hne)).trans h6
        have H := Lib.hid (And.intro hset (And.intro hfar (And.intro hc h4)))
        clear h5 h6 hset hfar e1 hc h4
        generalize s.bit q = sb at *
        generalize t.bit q = tb at *
        have hqq : (q : Int) < 100 := by omega
        cases sb <;> cases tb
        all_goals
          go_wp2
          obtain ⟨hset, hfar, hc, h4⟩ := H.out
          simp only [Bool.not_true, Bool.not_false, Bool.and_true, Bool.and_false, Bool.and_self] at hset hfar
          exact ⟨⟨q + 1, by simp, by omega, (by repeat (with_reducible first | exact hc | exact Chg.refl _ _ | refine chg_m ?_ _ | refine chg_g ?_ _ | refine chg_alloc ?_ _ | refine chg_drew ?_ | refine chg_drewN ?_ _ | refine chg_set ?_ _ _ _ | refine chg_cells _ _ _ ?_ (.inr (by omega)))), inferInstance, hset, hfar⟩, by simp [intOf]; omega⟩
      · obtain rfl : q = 100 := by omega
        have e2 : (rowc fun j => if j < 100 then s.bit j && !t.bit j else s.bit j) = rowc (fun i => s.bit i && !t.bit i) := rowc_congr fun j hj => by simp [hj]
        rw [e2] at h5
        have hmk := fun W => make_any (fun i => s.bit i && !t.bit i) W
        obtain ⟨z, hz, h4⟩ := h4.row
        have hi2 : (Try.prog.info? 105).map (·.size) = some (rowc (fun i => s.bit i && !t.bit i)).size := by rw [rowc_size]; exact infoRow
        have i4 : Old (w.heap.size + 1 + 1) wr := ⟨(Array.getElem?_eq_some_iff.1 h4).1⟩
        have hzq : ∀ k, (hzz : k < 4) → wr.cell? ⟨w.heap.size + 1 + 1, k, none⟩ = some (z[k]'(by omega)) ∧ wr.frozen? ⟨w.heap.size + 1 + 1, k, none⟩ = false := fun k hzz => ⟨by rw [cell_of_row _ _ _ _ _ _ h4]; exact Array.getElem?_eq_getElem (by omega), frozen_of_row _ _ _ _ _ h4⟩
        obtain ⟨y0, g0⟩ := hzq 0 (by omega)
        obtain ⟨y1, g1'⟩ := hzq 1 (by omega)
        obtain ⟨y2, g2'⟩ := hzq 2 (by omega)
        obtain ⟨y3, g3⟩ := hzq 3 (by omega)
        have m0 : HasCell wr (w.heap.size + 1 + 1) 0 := ⟨by rw [y0]; rfl⟩
        have m1 : HasCell wr (w.heap.size + 1 + 1) 1 := ⟨by rw [y1]; rfl⟩
        have m2 : HasCell wr (w.heap.size + 1 + 1) 2 := ⟨by rw [y2]; rfl⟩
        have m3 : HasCell wr (w.heap.size + 1 + 1) 3 := ⟨by rw [y3]; rfl⟩
        have HC := Lib.hid hc
        clear hzq hc h4 h6 e2
        generalize hm : St.make (fun i => s.bit i && !t.bit i) 100 = m at *
        have HM := Lib.hid hm
        clear hm
        generalize rowc (fun i => s.bit i && !t.bit i) = rc at *
        go_wp2_with (refine wpList_load_row rfl 105 _ rfl b1 rfl 105 rc (0, 0) _ h5 Try.underlying105 rfl hi2 ?_)
        refine (hmk _).mono ?_
        rintro e w' ⟨rfl, g9, rfl⟩
        go_wp2
        exact bodyPost_ret (v := m.v) (by simp [results, Try.results58, go_sem]) rfl (gr_mk (by rw [HM.out]) (by repeat (with_reducible first | exact HC.out | exact Chg.refl _ _ | refine chg_m ?_ _ | refine chg_g ?_ _ | refine chg_alloc ?_ _ | refine chg_drew ?_ | refine chg_drewN ?_ _ | refine chg_set ?_ _ _ _ | refine chg_cells _ _ _ ?_ (.inr (by omega)))))
end Go.Proofs.Yteemkceceaabkaa
