/- NoticeReads: the law's walk. -/
import Derived.Test.YtgohhallpkknfaaDoorTir
namespace Go.Proofs.YtgohhallpkknfaaDoor
open Go.RowKit Go.Ear Go.Proofs.YtgohhallpkknfaaDoorW.PrintWords Go.Proofs.YtgohhallpkknfaaDoor.PNoticeReads
set_option maxHeartbeats 4000000
set_option maxRecDepth 100000
set_option linter.unusedSimpArgs false
set_option linter.unusedVariables false
theorem rread_any (v : Value) (l : List Int) (s : ByteArray) (w : World) (hR : RosRIs w v l) (hl : l.length ≤ 100) :
    Calls Tryd.prog 12 #[v, .string s] w (Gr (.tuple #[nt (rdS l s).1 (rdS l s).2.1 (rdS l s).2.2.1, .int .i64 (rdS l s).2.2.2]) w) := by
  obtain ⟨A, c, rfl, hC, hc⟩ := hR
  refine (earshotref5_Read.calls 200000 A c l s _ _ _ _ w hC hc (readN_eq l s hl 200000 (Nat.le_refl _))).mono ?_
  rintro e w' ⟨rfl, hb⟩
  exact gr_mk rfl (Chg.of_below (by first | exact hb | exact hb.below))
theorem reads_any (s x : ByteArray) (w : World) (hp : Pow Tryd.prog w) (hE : Errs Tryd.prog w) : Calls Tryd.prog 4 #[.string s, .string x] w (Gr (.bool true) w) := by
  have hal := aliveN_any
  have hl := rosS_len s
  have h1 := ros_any s
  have h2 := rosR_any s
  unfold RosTo at h1
  unfold RosRTo at h2
  generalize rosS s = r at *
  obtain ⟨l, at', er⟩ := r
  simp only at h1 h2 hl
  have hpr := fun v W => nread_any v l x W
  have hprR := fun v W hR => rread_any v l x W hR hl
  generalize rdS l x = D at *
  obtain ⟨o, t, k, E⟩ := D
  simp only at hpr hprR
  have HP := Lib.hid hp
  have HE := Lib.hid hE
  clear hl hp hE
  go_enter Tryd.func4, Tryd.ntmps4
  go_wp2_with fail
  refine (h1 _).mono ?_
  rintro e W1 ⟨v, rfl, hR1, c1⟩
  obtain ⟨t1, A1, k1, m1, rfl⟩ := RosterIs.shape hR1
  have HR1 := Lib.hid hR1
  have C1 := Lib.hid c1
  clear hR1 c1
  go_wp2_with fail
  have hst1 := heap_alloc_new W1 (.cells #[.string t1, .slice A1 l.length k1, .map m1] 27)
  refine (h2 _).mono ?_
  rintro e W2 ⟨v2, rfl, hR2, c2⟩
  have i1 : W1.heap.size < W2.heap.size := Nat.lt_of_lt_of_le (by simp) c2.size
  have hst2 := (c2.block _ (by simp) (fun e => e)).trans hst1
  have u0 : W2.cell? ⟨W1.heap.size, 0, none⟩ = some (.string t1) := (cell_of_row _ _ _ _ _ _ hst2).trans rfl
  have u1 : W2.cell? ⟨W1.heap.size, 1, none⟩ = some (.slice A1 l.length k1) := (cell_of_row _ _ _ _ _ _ hst2).trans rfl
  have u2 : W2.cell? ⟨W1.heap.size, 2, none⟩ = some (.map m1) := (cell_of_row _ _ _ _ _ _ hst2).trans rfl
  have j1 : Old W1.heap.size W2 := ⟨i1⟩
  have cw : Chg Noth w W2 := Chg.trans (by repeat (with_reducible first | exact C1.out | exact Chg.refl _ _ | refine chg_m ?_ _ | refine chg_g ?_ _ | refine chg_alloc ?_ _ | refine chg_drew ?_ | refine chg_drewN ?_ _ | refine chg_set ?_ _ _ _)) c2 (fun _ _ e => e)
  obtain ⟨A2, k2, rfl, hC2, hk2⟩ := id hR2
  have HR2 := Lib.hid hR2
  have HRa := Lib.hid (HR1.out.grow ((chg_alloc (Chg.refl Noth W1) _).trans c2 (fun _ _ e => e)))
  have CW := Lib.hid cw
  have HPw := Lib.hid (HP.out.grow cw)
  have HEw := Lib.hid (HE.out.grow cw)
  clear hR2 hC2 hk2 cw c2 hst1 hst2
  go_wp2_with fail
  refine (hpr _ _ (HRa.out.grow (by repeat (with_reducible first | exact Chg.refl _ _ | refine chg_m ?_ _ | refine chg_g ?_ _ | refine chg_alloc ?_ _ | refine chg_drew ?_ | refine chg_drewN ?_ _ | refine chg_set ?_ _ _ _))) (HPw.out.grow (by repeat (with_reducible first | exact Chg.refl _ _ | refine chg_m ?_ _ | refine chg_g ?_ _ | refine chg_alloc ?_ _ | refine chg_drew ?_ | refine chg_drewN ?_ _ | refine chg_set ?_ _ _ _))) (HEw.out.grow (by repeat (with_reducible first | exact Chg.refl _ _ | refine chg_m ?_ _ | refine chg_g ?_ _ | refine chg_alloc ?_ _ | refine chg_drew ?_ | refine chg_drewN ?_ _ | refine chg_set ?_ _ _ _)))).mono ?_
  rintro e w' ⟨rfl, g3, rfl⟩
  go_wp2_with fail
  refine (hprR _ _ (HR2.out.grow (by repeat (with_reducible first | exact Chg.refl _ _ | refine chg_m ?_ _ | refine chg_g ?_ _ | refine chg_alloc ?_ _ | refine chg_drew ?_ | refine chg_drewN ?_ _ | refine chg_set ?_ _ _ _)))).mono ?_
  rintro e w' ⟨rfl, g4, rfl⟩
  have y2 : ((E : Int) == E) = true := by simp
  go_wp2_with (go_at_call 10; refine (hal _).mono ?_; rintro e w' ⟨rfl, g5, rfl⟩)
  go_ret
  exact gr_mk (by simp) (by repeat (with_reducible first | exact CW.out | exact Chg.refl _ _ | refine chg_m ?_ _ | refine chg_g ?_ _ | refine chg_alloc ?_ _ | refine chg_drew ?_ | refine chg_drewN ?_ _ | refine chg_set ?_ _ _ _))
end Go.Proofs.YtgohhallpkknfaaDoor
