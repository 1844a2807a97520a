/- The reference's holds at an event that does not stand at its place. -/
import Derived.Test.YteemkceceaabkaaAh0
set_option linter.unusedSimpArgs false
set_option linter.unusedVariables false
namespace Go.Proofs.Yteemkceceaabkaa
open Go.RowKit Go.Ear
set_option maxHeartbeats 8000000
set_option maxRecDepth 100000
set_option linter.unusedSimpArgs false
attribute [local go_sem ↓] Go.wp_at_zero Go.wp_at_succ

theorem holds_off1 (w : World) (p n f i : Nat) (nodes : List Nd) (shut : Ev) (row : Bool) (last : Int) (kind life round tag of dur : Int) (ha hb hc hd ua ub uc ud : Nat) (up : Bool) (xlife asked xtag opn : Int)
    (hD : DeskIs w p n f ⟨nodes, row, shut, last⟩) (hx : nodes[i]? = some ⟨up, xlife, asked, xtag, opn⟩) (he : Ev.ok (⟨kind, (i : Int), life, round, tag, of, dur, ⟨ha, hb, hc, hd⟩, ⟨ua, ub, uc, ud⟩⟩ : Ev)) (hfit : Ev.fit n (⟨kind, (i : Int), life, round, tag, of, dur, ⟨ha, hb, hc, hd⟩, ⟨ua, ub, uc, ud⟩⟩ : Ev)) (hbr : Ev.bare (⟨kind, (i : Int), life, round, tag, of, dur, ⟨ha, hb, hc, hd⟩, ⟨ua, ub, uc, ud⟩⟩ : Ev)) (hrow : row = true) (hq : ¬ (i : Int) = shut.node) :
    Calls Try.prog 39 #[.pointer (some ⟨p, 0, none⟩), .agg #[iv kind, iv (i : Int), iv life, iv round, iv tag, iv of, iv dur, u32v ha, u32v hb, u32v hc, u32v hd, u32v ua, u32v ub, u32v uc, u32v ud]] w (Held w p n f (Au.step n f ⟨nodes, row, shut, last⟩ (⟨kind, (i : Int), life, round, tag, of, dur, ⟨ha, hb, hc, hd⟩, ⟨ua, ub, uc, ud⟩⟩ : Ev))) := by
  subst hrow
  obtain ⟨cs, hR, hD⟩ := hD
  have hlen := hD.len
  have h100 := hD.n100
  have hfn := hD.fn
  simp only at hlen
  have hil := (List.getElem?_eq_some_iff.1 hx).1
  have hin : (i : Int) < (n : Int) := by omega
  have hi0 : (0 : Int) ≤ (i : Int) := by omega
  have hih : (i : Int) < 100 := by omega
  have hl1 := hfit.2.2.2.2.1
  have hl2 := hfit.2.2.2.2.2
  simp only at hl1 hl2
  have mp : May p (fun k => k = p) w := ⟨.inl rfl⟩
  obtain ⟨c0, f0, k0⟩ := hR.cell hD.c0
  obtain ⟨c1, f1, k1⟩ := hR.cell hD.c1
  obtain ⟨cr, fr, kr⟩ := hR.cell (v := .bool true) hD.row
  obtain ⟨d0, g0, m0⟩ := hR.cell (v := .bool up) (hD.nd i _ hx 0 (by decide))
  obtain ⟨d1, g1, m1⟩ := hR.cell (v := iv xlife) (hD.nd i _ hx 1 (by decide))
  obtain ⟨d2, g2, m2⟩ := hR.cell (v := iv xlife) (hD.nd i _ hx 2 (by decide))
  obtain ⟨d3, g3, m3⟩ := hR.cell (v := iv opn) (hD.nd i _ hx 3 (by decide))
  obtain ⟨d4, g4, m4⟩ := hR.cell (v := iv asked) (hD.nd i _ hx 4 (by decide))
  obtain ⟨d5, g5, m5⟩ := hR.cell (v := iv xtag) (hD.nd i _ hx 5 (by decide))
  simp only [Nat.add_zero] at d0 g0 m0
  obtain ⟨s1, t1, v1⟩ := hR.cell (v := iv shut.node) (hD.shut 1 (by decide))
  simp only [Nat.reduceAdd] at s1 t1 v1
  have jp : Old p w := ⟨hR.lt⟩
  have hbare : ∀ W, Calls Try.prog 44 #[.agg #[iv kind, iv (i : Int), iv life, iv round, iv tag, iv of, iv dur, u32v ha, u32v hb, u32v hc, u32v hd, u32v ua, u32v ub, u32v uc, u32v ud]] W (Gr (.bool true) W) := fun W => by
    have := bare_any kind i life round tag of dur ha hb hc hd ua ub uc ud hfit.1 hfit.2.1 W
    rwa [decide_eq_true hbr] at this
  have x1 : decide ((i : Int) < 0) = false := decide_eq_false (by omega)
  have x2 : decide (n ≤ i) = false := decide_eq_false (by omega)
  have x3 : decide (life < 1) = false := decide_eq_false (by omega)
  have x4 : decide (1073741824 < life) = false := decide_eq_false (by omega)
  have HNO : Hid (Au.step n f ⟨nodes, true, shut, last⟩ (⟨kind, (i : Int), life, round, tag, of, dur, ⟨ha, hb, hc, hd⟩, ⟨ua, ub, uc, ud⟩⟩ : Ev) = none) := Lib.hid (step_no rfl hx (by rintro ⟨⟨h, _⟩, _⟩; exact hq (h rfl).2))
  have x5 : decide (kind < 1) = false := by have := hfit.1; simp only at this; exact decide_eq_false (by omega)
  have x6 : decide (6 < kind) = false := by have := hfit.2.1; simp only at this; exact decide_eq_false (by omega)
  have y1 : ((i : Int) != shut.node) = true := by rw [bne_iff_ne]; exact hq
  generalize Au.step n f ⟨nodes, true, shut, last⟩ (⟨kind, (i : Int), life, round, tag, of, dur, ⟨ha, hb, hc, hd⟩, ⟨ua, ub, uc, ud⟩⟩ : Ev) = r at *
  clear hfit he hq
  have HR := Lib.hid hR
  have HD := Lib.hid hD
  have HX := Lib.hid hx
  clear hR hD hx hbr hlen hil
  go_enter Try.func39, Try.ntmps39
  go_wp2
  refine wp_region_grows (by kernel_rfl) (by kernel_rfl) ?_
  repeat (go_big_quiet_step ((go_at_call 44; exact grows_of (hbare _))))
  refine wpQuiet_nil ?_
  rintro _ ⟨gg, rfl⟩
  go_wp2
  refine wp_region_grows (by kernel_rfl) (by kernel_rfl) ?_
  repeat (go_big_quiet_step ((fail)))
  refine wpQuiet_nil ?_
  rintro _ ⟨gg, rfl⟩
  go_wp2
  refine wp_region_grows (by kernel_rfl) (by kernel_rfl) ?_
  repeat (go_big_quiet_step ((fail)))
  refine wpQuiet_nil ?_
  rintro _ ⟨gg, rfl⟩
  go_wp2
  go_ret
  exact ⟨(by repeat (with_reducible first | exact Chg.refl _ _ | refine chg_m ?_ _ | refine chg_g ?_ _ | refine chg_alloc ?_ _ | refine chg_drew ?_ | refine chg_drewN ?_ _ | refine chg_set ?_ _ _ _)), .inl ⟨HNO.out, rfl⟩⟩

theorem holds_off2 (w : World) (p n f i : Nat) (nodes : List Nd) (shut : Ev) (row : Bool) (last : Int) (kind life round tag of dur : Int) (ha hb hc hd ua ub uc ud : Nat) (up : Bool) (xlife asked xtag opn : Int)
    (hD : DeskIs w p n f ⟨nodes, row, shut, last⟩) (hx : nodes[i]? = some ⟨up, xlife, asked, xtag, opn⟩) (he : Ev.ok (⟨kind, (i : Int), life, round, tag, of, dur, ⟨ha, hb, hc, hd⟩, ⟨ua, ub, uc, ud⟩⟩ : Ev)) (hfit : Ev.fit n (⟨kind, (i : Int), life, round, tag, of, dur, ⟨ha, hb, hc, hd⟩, ⟨ua, ub, uc, ud⟩⟩ : Ev)) (hbr : Ev.bare (⟨kind, (i : Int), life, round, tag, of, dur, ⟨ha, hb, hc, hd⟩, ⟨ua, ub, uc, ud⟩⟩ : Ev)) (hrow : row = true) (hq : (i : Int) = shut.node) (hk2 : ¬ kind = 2) (hk4 : ¬ kind = 4) :
    Calls Try.prog 39 #[.pointer (some ⟨p, 0, none⟩), .agg #[iv kind, iv (i : Int), iv life, iv round, iv tag, iv of, iv dur, u32v ha, u32v hb, u32v hc, u32v hd, u32v ua, u32v ub, u32v uc, u32v ud]] w (Held w p n f (Au.step n f ⟨nodes, row, shut, last⟩ (⟨kind, (i : Int), life, round, tag, of, dur, ⟨ha, hb, hc, hd⟩, ⟨ua, ub, uc, ud⟩⟩ : Ev))) := by
  subst hrow
  obtain ⟨cs, hR, hD⟩ := hD
  have hlen := hD.len
  have h100 := hD.n100
  have hfn := hD.fn
  simp only at hlen
  have hil := (List.getElem?_eq_some_iff.1 hx).1
  have hin : (i : Int) < (n : Int) := by omega
  have hi0 : (0 : Int) ≤ (i : Int) := by omega
  have hih : (i : Int) < 100 := by omega
  have hl1 := hfit.2.2.2.2.1
  have hl2 := hfit.2.2.2.2.2
  simp only at hl1 hl2
  have mp : May p (fun k => k = p) w := ⟨.inl rfl⟩
  obtain ⟨c0, f0, k0⟩ := hR.cell hD.c0
  obtain ⟨c1, f1, k1⟩ := hR.cell hD.c1
  obtain ⟨cr, fr, kr⟩ := hR.cell (v := .bool true) hD.row
  obtain ⟨d0, g0, m0⟩ := hR.cell (v := .bool up) (hD.nd i _ hx 0 (by decide))
  obtain ⟨d1, g1, m1⟩ := hR.cell (v := iv xlife) (hD.nd i _ hx 1 (by decide))
  obtain ⟨d2, g2, m2⟩ := hR.cell (v := iv xlife) (hD.nd i _ hx 2 (by decide))
  obtain ⟨d3, g3, m3⟩ := hR.cell (v := iv opn) (hD.nd i _ hx 3 (by decide))
  obtain ⟨d4, g4, m4⟩ := hR.cell (v := iv asked) (hD.nd i _ hx 4 (by decide))
  obtain ⟨d5, g5, m5⟩ := hR.cell (v := iv xtag) (hD.nd i _ hx 5 (by decide))
  simp only [Nat.add_zero] at d0 g0 m0
  obtain ⟨s1, t1, v1⟩ := hR.cell (v := iv shut.node) (hD.shut 1 (by decide))
  simp only [Nat.reduceAdd] at s1 t1 v1
  have jp : Old p w := ⟨hR.lt⟩
  have hbare : ∀ W, Calls Try.prog 44 #[.agg #[iv kind, iv (i : Int), iv life, iv round, iv tag, iv of, iv dur, u32v ha, u32v hb, u32v hc, u32v hd, u32v ua, u32v ub, u32v uc, u32v ud]] W (Gr (.bool true) W) := fun W => by
    have := bare_any kind i life round tag of dur ha hb hc hd ua ub uc ud hfit.1 hfit.2.1 W
    rwa [decide_eq_true hbr] at this
  have x1 : decide ((i : Int) < 0) = false := decide_eq_false (by omega)
  have x2 : decide (n ≤ i) = false := decide_eq_false (by omega)
  have x3 : decide (life < 1) = false := decide_eq_false (by omega)
  have x4 : decide (1073741824 < life) = false := decide_eq_false (by omega)
  have HNO : Hid (Au.step n f ⟨nodes, true, shut, last⟩ (⟨kind, (i : Int), life, round, tag, of, dur, ⟨ha, hb, hc, hd⟩, ⟨ua, ub, uc, ud⟩⟩ : Ev) = none) := Lib.hid (step_no rfl hx (by rintro ⟨⟨h, _⟩, _⟩; rcases (h rfl).1 with h | h; exact hk4 h; exact hk2 h))
  have x5 : decide (kind < 1) = false := by have := hfit.1; simp only at this; exact decide_eq_false (by omega)
  have x6 : decide (6 < kind) = false := by have := hfit.2.1; simp only at this; exact decide_eq_false (by omega)
  have y1 : ((i : Int) != shut.node) = false := by rw [bne_eq_false_iff_eq]; exact hq
  have y2 : (kind != 2) = true := by rw [bne_iff_ne]; exact hk2
  have y3 : (kind != 4) = true := by rw [bne_iff_ne]; exact hk4
  generalize Au.step n f ⟨nodes, true, shut, last⟩ (⟨kind, (i : Int), life, round, tag, of, dur, ⟨ha, hb, hc, hd⟩, ⟨ua, ub, uc, ud⟩⟩ : Ev) = r at *
  clear hfit he hq hk2 hk4
  have HR := Lib.hid hR
  have HD := Lib.hid hD
  have HX := Lib.hid hx
  clear hR hD hx hbr hlen hil
  go_enter Try.func39, Try.ntmps39
  go_wp2
  refine wp_region_grows (by kernel_rfl) (by kernel_rfl) ?_
  repeat (go_big_quiet_step ((go_at_call 44; exact grows_of (hbare _))))
  refine wpQuiet_nil ?_
  rintro _ ⟨gg, rfl⟩
  go_wp2
  refine wp_region_grows (by kernel_rfl) (by kernel_rfl) ?_
  repeat (go_big_quiet_step ((fail)))
  refine wpQuiet_nil ?_
  rintro _ ⟨gg, rfl⟩
  go_wp2
  refine wp_region_grows (by kernel_rfl) (by kernel_rfl) ?_
  repeat (go_big_quiet_step ((fail)))
  refine wpQuiet_nil ?_
  rintro _ ⟨gg, rfl⟩
  go_wp2
  go_ret
  exact ⟨(by repeat (with_reducible first | exact Chg.refl _ _ | refine chg_m ?_ _ | refine chg_g ?_ _ | refine chg_alloc ?_ _ | refine chg_drew ?_ | refine chg_drewN ?_ _ | refine chg_set ?_ _ _ _)), .inl ⟨HNO.out, rfl⟩⟩

theorem holds_off3 (w : World) (p n f i : Nat) (nodes : List Nd) (shut : Ev) (row : Bool) (last : Int) (life round tag of dur : Int) (ha hb hc hd ua ub uc ud : Nat) (up : Bool) (xlife asked xtag opn : Int)
    (hD : DeskIs w p n f ⟨nodes, row, shut, last⟩) (hx : nodes[i]? = some ⟨up, xlife, asked, xtag, opn⟩) (he : Ev.ok (⟨4, (i : Int), life, round, tag, of, dur, ⟨ha, hb, hc, hd⟩, ⟨ua, ub, uc, ud⟩⟩ : Ev)) (hfit : Ev.fit n (⟨4, (i : Int), life, round, tag, of, dur, ⟨ha, hb, hc, hd⟩, ⟨ua, ub, uc, ud⟩⟩ : Ev)) (hbr : Ev.bare (⟨4, (i : Int), life, round, tag, of, dur, ⟨ha, hb, hc, hd⟩, ⟨ua, ub, uc, ud⟩⟩ : Ev)) (hrow : row = false) :
    Calls Try.prog 39 #[.pointer (some ⟨p, 0, none⟩), .agg #[iv 4, iv (i : Int), iv life, iv round, iv tag, iv of, iv dur, u32v ha, u32v hb, u32v hc, u32v hd, u32v ua, u32v ub, u32v uc, u32v ud]] w (Held w p n f (Au.step n f ⟨nodes, row, shut, last⟩ (⟨4, (i : Int), life, round, tag, of, dur, ⟨ha, hb, hc, hd⟩, ⟨ua, ub, uc, ud⟩⟩ : Ev))) := by
  subst hrow
  obtain ⟨cs, hR, hD⟩ := hD
  have hlen := hD.len
  have h100 := hD.n100
  have hfn := hD.fn
  simp only at hlen
  have hil := (List.getElem?_eq_some_iff.1 hx).1
  have hin : (i : Int) < (n : Int) := by omega
  have hi0 : (0 : Int) ≤ (i : Int) := by omega
  have hih : (i : Int) < 100 := by omega
  have hl1 := hfit.2.2.2.2.1
  have hl2 := hfit.2.2.2.2.2
  simp only at hl1 hl2
  have mp : May p (fun k => k = p) w := ⟨.inl rfl⟩
  obtain ⟨c0, f0, k0⟩ := hR.cell hD.c0
  obtain ⟨c1, f1, k1⟩ := hR.cell hD.c1
  obtain ⟨cr, fr, kr⟩ := hR.cell (v := .bool false) hD.row
  obtain ⟨d0, g0, m0⟩ := hR.cell (v := .bool up) (hD.nd i _ hx 0 (by decide))
  obtain ⟨d1, g1, m1⟩ := hR.cell (v := iv xlife) (hD.nd i _ hx 1 (by decide))
  obtain ⟨d2, g2, m2⟩ := hR.cell (v := iv xlife) (hD.nd i _ hx 2 (by decide))
  obtain ⟨d3, g3, m3⟩ := hR.cell (v := iv opn) (hD.nd i _ hx 3 (by decide))
  obtain ⟨d4, g4, m4⟩ := hR.cell (v := iv asked) (hD.nd i _ hx 4 (by decide))
  obtain ⟨d5, g5, m5⟩ := hR.cell (v := iv xtag) (hD.nd i _ hx 5 (by decide))
  simp only [Nat.add_zero] at d0 g0 m0
  obtain ⟨s1, t1, v1⟩ := hR.cell (v := iv shut.node) (hD.shut 1 (by decide))
  simp only [Nat.reduceAdd] at s1 t1 v1
  have jp : Old p w := ⟨hR.lt⟩
  have hbare : ∀ W, Calls Try.prog 44 #[.agg #[iv 4, iv (i : Int), iv life, iv round, iv tag, iv of, iv dur, u32v ha, u32v hb, u32v hc, u32v hd, u32v ua, u32v ub, u32v uc, u32v ud]] W (Gr (.bool true) W) := fun W => by
    have := bare_any 4 i life round tag of dur ha hb hc hd ua ub uc ud hfit.1 hfit.2.1 W
    rwa [decide_eq_true hbr] at this
  have x1 : decide ((i : Int) < 0) = false := decide_eq_false (by omega)
  have x2 : decide (n ≤ i) = false := decide_eq_false (by omega)
  have x3 : decide (life < 1) = false := decide_eq_false (by omega)
  have x4 : decide (1073741824 < life) = false := decide_eq_false (by omega)
  have HNO : Hid (Au.step n f ⟨nodes, false, shut, last⟩ (⟨4, (i : Int), life, round, tag, of, dur, ⟨ha, hb, hc, hd⟩, ⟨ua, ub, uc, ud⟩⟩ : Ev) = none) := Lib.hid (step_no rfl hx (by rintro ⟨⟨_, h⟩, _⟩; rcases h with h | h; cases h; exact h rfl))
  generalize Au.step n f ⟨nodes, false, shut, last⟩ (⟨4, (i : Int), life, round, tag, of, dur, ⟨ha, hb, hc, hd⟩, ⟨ua, ub, uc, ud⟩⟩ : Ev) = r at *
  clear hfit he
  have HR := Lib.hid hR
  have HD := Lib.hid hD
  have HX := Lib.hid hx
  clear hR hD hx hbr hlen hil
  go_enter Try.func39, Try.ntmps39
  go_wp2
  refine wp_region_grows (by kernel_rfl) (by kernel_rfl) ?_
  repeat (go_big_quiet_step ((go_at_call 44; exact grows_of (hbare _))))
  refine wpQuiet_nil ?_
  rintro _ ⟨gg, rfl⟩
  go_wp2
  refine wp_region_grows (by kernel_rfl) (by kernel_rfl) ?_
  repeat (go_big_quiet_step ((fail)))
  refine wpQuiet_nil ?_
  rintro _ ⟨gg, rfl⟩
  go_wp2
  refine wp_region_grows (by kernel_rfl) (by kernel_rfl) ?_
  repeat (go_big_quiet_step ((fail)))
  refine wpQuiet_nil ?_
  rintro _ ⟨gg, rfl⟩
  go_wp2
  go_ret
  exact ⟨(by repeat (with_reducible first | exact Chg.refl _ _ | refine chg_m ?_ _ | refine chg_g ?_ _ | refine chg_alloc ?_ _ | refine chg_drew ?_ | refine chg_drewN ?_ _ | refine chg_set ?_ _ _ _)), .inl ⟨HNO.out, rfl⟩⟩
end Go.Proofs.Yteemkceceaabkaa
