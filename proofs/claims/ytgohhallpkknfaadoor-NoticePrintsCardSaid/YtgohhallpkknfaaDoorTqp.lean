/- NoticePrints: the law's walk. -/
import Derived.Test.YtgohhallpkknfaaDoorTpp
namespace Go.Proofs.YtgohhallpkknfaaDoor
open Go.RowKit Go.Ear Go.Proofs.YtgohhallpkknfaaDoorW.PrintWords Go.Proofs.YtgohhallpkknfaaDoor.PNoticePrints
set_option maxHeartbeats 4000000
set_option maxRecDepth 100000
set_option linter.unusedSimpArgs false
set_option linter.unusedVariables false
theorem prints_any (s : ByteArray) (o t k : Int) (w : World) (hp : Pow Tryd.prog w) : Calls Tryd.prog 3 #[.string s, nt o t k] w (Gr (.bool true) w) := by
  have hal := aliveN_any
  have hl := rosS_letters s
  have h1 := ros_any s
  have h2 := rosR_any s
  unfold RosTo at h1
  unfold RosRTo at h2
  generalize rosS s = r at *
  obtain ⟨l, at', er⟩ := r
  simp only at h1 h2 hl
  have hpr := fun v W => nprint_any v l o t k W
  have hprR := fun v W hR => rprint_any v l o t k W hR hl
  generalize prB l o t k = B at *
  generalize prE l o t k = E at *
  have HP := Lib.hid hp
  clear hl hp
  go_enter Tryd.func3, Tryd.ntmps3
  go_wp2_with fail
  refine (h1 _).mono ?_
  rintro e W1 ⟨v, rfl, hR1, c1⟩
  have hx1 := (c1.block w.heap.size (by simp) (fun e => e)).trans (heap_alloc_new w (.cells #[.int .i64 o, .int .i64 t, .int .i64 k] 23))
  have C0 := Lib.hid (And.intro hx1 (Array.getElem?_eq_some_iff.1 hx1).1)
  clear hx1
  have c1 : Chg Noth w W1 := Chg.trans (by repeat (with_reducible first | exact Chg.refl _ _ | refine chg_m ?_ _ | refine chg_g ?_ _ | refine chg_alloc ?_ _ | refine chg_drew ?_ | refine chg_drewN ?_ _ | refine chg_set ?_ _ _ _)) c1 (fun _ _ e => e)
  obtain ⟨t1, A1, k1, m1, rfl⟩ := RosterIs.shape hR1
  have HR1 := Lib.hid hR1
  have C1 := Lib.hid c1
  clear hR1 c1
  go_wp2_with fail
  have hst1 := heap_alloc_new W1 (.cells #[.string t1, .slice A1 l.length k1, .map m1] 27)
  refine (h2 _).mono ?_
  rintro e W2 ⟨v2, rfl, hR2, c2⟩
  have i1 : W1.heap.size < W2.heap.size := Nat.lt_of_lt_of_le (by simp) c2.size
  have hst2 := (c2.block _ (by simp) (fun e => e)).trans hst1
  have u0 : W2.cell? ⟨W1.heap.size, 0, none⟩ = some (.string t1) := (cell_of_row _ _ _ _ _ _ hst2).trans rfl
  have u1 : W2.cell? ⟨W1.heap.size, 1, none⟩ = some (.slice A1 l.length k1) := (cell_of_row _ _ _ _ _ _ hst2).trans rfl
  have u2 : W2.cell? ⟨W1.heap.size, 2, none⟩ = some (.map m1) := (cell_of_row _ _ _ _ _ _ hst2).trans rfl
  have j1 : Old W1.heap.size W2 := ⟨i1⟩
  have cw : Chg Noth w W2 := Chg.trans (by repeat (with_reducible first | exact C1.out | exact Chg.refl _ _ | refine chg_m ?_ _ | refine chg_g ?_ _ | refine chg_alloc ?_ _ | refine chg_drew ?_ | refine chg_drewN ?_ _ | refine chg_set ?_ _ _ _)) c2 (fun _ _ e => e)
  have hx0 : w.heap.size < W1.heap.size := C0.out.2
  have hx := (c2.block _ (by simp; omega) (fun e => e)).trans ((Below.heap_alloc _ _ _ hx0).trans C0.out.1)
  have x0 : W2.cell? ⟨w.heap.size, 0, none⟩ = some (.int .i64 o) := (cell_of_row _ _ _ _ _ _ hx).trans rfl
  have x1 : W2.cell? ⟨w.heap.size, 1, none⟩ = some (.int .i64 t) := (cell_of_row _ _ _ _ _ _ hx).trans rfl
  have x2 : W2.cell? ⟨w.heap.size, 2, none⟩ = some (.int .i64 k) := (cell_of_row _ _ _ _ _ _ hx).trans rfl
  have j0 : Old w.heap.size W2 := ⟨by omega⟩
  obtain ⟨A2, k2, rfl, hC2, hk2⟩ := id hR2
  have HR2 := Lib.hid hR2
  have HRa := Lib.hid (HR1.out.grow ((chg_alloc (Chg.refl Noth W1) _).trans c2 (fun _ _ e => e)))
  have CW := Lib.hid cw
  have HPw := Lib.hid (HP.out.grow cw)
  clear hR2 hC2 hk2 cw c2 hst1 hst2 hx
  go_wp2_with fail
  refine (hpr _ _ (HRa.out.grow (by repeat (with_reducible first | exact Chg.refl _ _ | refine chg_m ?_ _ | refine chg_g ?_ _ | refine chg_alloc ?_ _ | refine chg_drew ?_ | refine chg_drewN ?_ _ | refine chg_set ?_ _ _ _))) (HPw.out.grow (by repeat (with_reducible first | exact Chg.refl _ _ | refine chg_m ?_ _ | refine chg_g ?_ _ | refine chg_alloc ?_ _ | refine chg_drew ?_ | refine chg_drewN ?_ _ | refine chg_set ?_ _ _ _)))).mono ?_
  rintro e w' ⟨rfl, g3, rfl⟩
  go_wp2_with fail
  refine (hprR _ _ (HR2.out.grow (by repeat (with_reducible first | exact Chg.refl _ _ | refine chg_m ?_ _ | refine chg_g ?_ _ | refine chg_alloc ?_ _ | refine chg_drew ?_ | refine chg_drewN ?_ _ | refine chg_set ?_ _ _ _)))).mono ?_
  rintro e w' ⟨rfl, g4, rfl⟩
  have y1 : (B == B) = true := by rw [beq_toListBytes]; simp
  have y1' : (B.toList == B.toList) = true := by simp
  have y2 : ((E : Int) == E) = true := by simp
  go_wp2_with (go_at_call 10; refine (hal _).mono ?_; rintro e w' ⟨rfl, g5, rfl⟩)
  go_ret
  exact gr_mk (by simp) (by repeat (with_reducible first | exact CW.out | exact Chg.refl _ _ | refine chg_m ?_ _ | refine chg_g ?_ _ | refine chg_alloc ?_ _ | refine chg_drew ?_ | refine chg_drewN ?_ _ | refine chg_set ?_ _ _ _))
end Go.Proofs.YtgohhallpkknfaaDoor
