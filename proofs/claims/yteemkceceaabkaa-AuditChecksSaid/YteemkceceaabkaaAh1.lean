/- The reference's holds at kind 1. -/
import Derived.Test.YteemkceceaabkaaAh0
set_option linter.unusedSimpArgs false
set_option linter.unusedVariables false
namespace Go.Proofs.Yteemkceceaabkaa
open Go.RowKit Go.Ear
set_option maxHeartbeats 8000000
set_option maxRecDepth 100000
set_option linter.unusedSimpArgs false
attribute [local go_sem ↓] Go.wp_at_zero Go.wp_at_succ

theorem holds_k1 (w : World) (p n f i : Nat) (nodes : List Nd) (shut : Ev) (row : Bool) (last : Int) (life round tag of dur : Int) (ha hb hc hd ua ub uc ud : Nat) (up : Bool) (xlife asked xtag opn : Int)
    (hD : DeskIs w p n f ⟨nodes, row, shut, last⟩) (hx : nodes[i]? = some ⟨up, xlife, asked, xtag, opn⟩) (he : Ev.ok (⟨1, (i : Int), life, round, tag, of, dur, ⟨ha, hb, hc, hd⟩, ⟨ua, ub, uc, ud⟩⟩ : Ev)) (hfit : Ev.fit n (⟨1, (i : Int), life, round, tag, of, dur, ⟨ha, hb, hc, hd⟩, ⟨ua, ub, uc, ud⟩⟩ : Ev)) (hbr : Ev.bare (⟨1, (i : Int), life, round, tag, of, dur, ⟨ha, hb, hc, hd⟩, ⟨ua, ub, uc, ud⟩⟩ : Ev)) (hrow : row = false) :
    Calls Try.prog 39 #[.pointer (some ⟨p, 0, none⟩), .agg #[iv 1, iv (i : Int), iv life, iv round, iv tag, iv of, iv dur, u32v ha, u32v hb, u32v hc, u32v hd, u32v ua, u32v ub, u32v uc, u32v ud]] w (Held w p n f (Au.step n f ⟨nodes, row, shut, last⟩ (⟨1, (i : Int), life, round, tag, of, dur, ⟨ha, hb, hc, hd⟩, ⟨ua, ub, uc, ud⟩⟩ : Ev))) := by
  subst hrow
  obtain ⟨cs, hR, hD⟩ := hD
  have hlen := hD.len
  have h100 := hD.n100
  have hfn := hD.fn
  simp only at hlen
  have hil := (List.getElem?_eq_some_iff.1 hx).1
  have hin : (i : Int) < (n : Int) := by omega
  have hi0 : (0 : Int) ≤ (i : Int) := by omega
  have hih : (i : Int) < 100 := by omega
  have hl1 := hfit.2.2.2.2.1
  have hl2 := hfit.2.2.2.2.2
  simp only at hl1 hl2
  have mp : May p (fun k => k = p) w := ⟨.inl rfl⟩
  obtain ⟨c0, f0, k0⟩ := hR.cell hD.c0
  obtain ⟨c1, f1, k1⟩ := hR.cell hD.c1
  obtain ⟨cr, fr, kr⟩ := hR.cell (v := .bool false) hD.row
  obtain ⟨d0, g0, m0⟩ := hR.cell (v := .bool up) (hD.nd i _ hx 0 (by decide))
  obtain ⟨d1, g1, m1⟩ := hR.cell (v := iv xlife) (hD.nd i _ hx 1 (by decide))
  obtain ⟨d2, g2, m2⟩ := hR.cell (v := iv xlife) (hD.nd i _ hx 2 (by decide))
  obtain ⟨d3, g3, m3⟩ := hR.cell (v := iv opn) (hD.nd i _ hx 3 (by decide))
  obtain ⟨d4, g4, m4⟩ := hR.cell (v := iv asked) (hD.nd i _ hx 4 (by decide))
  obtain ⟨d5, g5, m5⟩ := hR.cell (v := iv xtag) (hD.nd i _ hx 5 (by decide))
  simp only [Nat.add_zero] at d0 g0 m0
  obtain ⟨s1, t1, v1⟩ := hR.cell (v := iv shut.node) (hD.shut 1 (by decide))
  simp only [Nat.reduceAdd] at s1 t1 v1
  have jp : Old p w := ⟨hR.lt⟩
  have hbare : ∀ W, Calls Try.prog 44 #[.agg #[iv 1, iv (i : Int), iv life, iv round, iv tag, iv of, iv dur, u32v ha, u32v hb, u32v hc, u32v hd, u32v ua, u32v ub, u32v uc, u32v ud]] W (Gr (.bool true) W) := fun W => by
    have := bare_any 1 i life round tag of dur ha hb hc hd ua ub uc ud hfit.1 hfit.2.1 W
    rwa [decide_eq_true hbr] at this
  have x1 : decide ((i : Int) < 0) = false := decide_eq_false (by omega)
  have x2 : decide (n ≤ i) = false := decide_eq_false (by omega)
  have x3 : decide (life < 1) = false := decide_eq_false (by omega)
  have x4 : decide (1073741824 < life) = false := decide_eq_false (by omega)
  have hstep := fun hg => step_yes (n := n) (f := f) (s := ⟨nodes, false, shut, last⟩) (e := (⟨1, (i : Int), life, round, tag, of, dur, ⟨ha, hb, hc, hd⟩, ⟨ua, ub, uc, ud⟩⟩ : Ev)) (x := ⟨up, xlife, asked, xtag, opn⟩) hfit hbr rfl hx ⟨(fun h => by cases h), .inr (by show (1 : Int) ≠ 4; decide)⟩ (.inl rfl) hg
  have hnost := fun (h : ¬ Au.good n f ⟨nodes, false, shut, last⟩ ⟨up, xlife, asked, xtag, opn⟩ (⟨1, (i : Int), life, round, tag, of, dur, ⟨ha, hb, hc, hd⟩, ⟨ua, ub, uc, ud⟩⟩ : Ev)) => step_no (n := n) (f := f) (s := ⟨nodes, false, shut, last⟩) (e := (⟨1, (i : Int), life, round, tag, of, dur, ⟨ha, hb, hc, hd⟩, ⟨ua, ub, uc, ud⟩⟩ : Ev)) (x := ⟨up, xlife, asked, xtag, opn⟩) rfl hx (fun (g : _ ∧ _ ∧ _) => h g.2.2)
  have HST := Lib.hid hstep
  have HNS := Lib.hid hnost
  generalize Au.step n f ⟨nodes, false, shut, last⟩ (⟨1, (i : Int), life, round, tag, of, dur, ⟨ha, hb, hc, hd⟩, ⟨ua, ub, uc, ud⟩⟩ : Ev) = r at *
  clear hfit hstep hnost
  have HE := Lib.hid he
  clear he
  have HR := Lib.hid hR
  have HD := Lib.hid hD
  have HX := Lib.hid hx
  clear hR hD hx hbr hlen hil
  by_cases z0 : up = true
  case pos => as_aux_lemma =>
    have HNO : Hid (r = none) := Lib.hid (HNS.out (by unfold Au.good; rintro ⟨h1, h2, h3, h4, h5⟩; have hg := h1 rfl; clear h1 h2 h3 h4 h5; dsimp only at hg; first | omega | simp_all))
    subst z0
    go_enter Try.func39, Try.ntmps39
    go_wp2
    refine wp_region_grows (by kernel_rfl) (by kernel_rfl) ?_
    repeat (go_big_quiet_step ((go_at_call 44; exact grows_of (hbare _))))
    refine wpQuiet_nil ?_
    rintro _ ⟨gg, rfl⟩
    go_wp2
    refine wp_region_grows (by kernel_rfl) (by kernel_rfl) ?_
    repeat (go_big_quiet_step ((fail)))
    refine wpQuiet_nil ?_
    rintro _ ⟨gg, rfl⟩
    go_wp2
    refine wp_region_grows (by kernel_rfl) (by kernel_rfl) ?_
    repeat (go_big_quiet_step ((fail)))
    refine wpQuiet_nil ?_
    rintro _ ⟨gg, rfl⟩
    go_wp2
    refine wp_region_grows (by kernel_rfl) (by kernel_rfl) ?_
    repeat (go_big_quiet_step ((fail)))
    refine wpQuiet_nil ?_
    rintro _ ⟨gg, rfl⟩
    go_wp2
    refine wp_region_grows (by kernel_rfl) (by kernel_rfl) ?_
    repeat (go_big_quiet_step ((fail)))
    refine wpQuiet_nil ?_
    rintro _ ⟨gg, rfl⟩
    go_wp2
    go_ret
    exact ⟨(by repeat (with_reducible first | exact Chg.refl _ _ | refine chg_m ?_ _ | refine chg_g ?_ _ | refine chg_alloc ?_ _ | refine chg_drew ?_ | refine chg_drewN ?_ _ | refine chg_set ?_ _ _ _)), .inl ⟨HNO.out, rfl⟩⟩
  obtain rfl : up = false := by simpa using z0
  by_cases z1 : life ≤ xlife
  case pos => as_aux_lemma =>
    have HNO : Hid (r = none) := Lib.hid (HNS.out (by unfold Au.good; rintro ⟨h1, h2, h3, h4, h5⟩; have hg := h1 rfl; clear h1 h2 h3 h4 h5; dsimp only at hg; first | omega | simp_all))
    have dd7 : decide (life ≤ xlife) = true := decide_eq_true (by omega)
    clear z1
    go_enter Try.func39, Try.ntmps39
    go_wp2
    refine wp_region_grows (by kernel_rfl) (by kernel_rfl) ?_
    repeat (go_big_quiet_step ((go_at_call 44; exact grows_of (hbare _))))
    refine wpQuiet_nil ?_
    rintro _ ⟨gg, rfl⟩
    go_wp2
    refine wp_region_grows (by kernel_rfl) (by kernel_rfl) ?_
    repeat (go_big_quiet_step ((fail)))
    refine wpQuiet_nil ?_
    rintro _ ⟨gg, rfl⟩
    go_wp2
    refine wp_region_grows (by kernel_rfl) (by kernel_rfl) ?_
    repeat (go_big_quiet_step ((fail)))
    refine wpQuiet_nil ?_
    rintro _ ⟨gg, rfl⟩
    go_wp2
    refine wp_region_grows (by kernel_rfl) (by kernel_rfl) ?_
    repeat (go_big_quiet_step ((fail)))
    refine wpQuiet_nil ?_
    rintro _ ⟨gg, rfl⟩
    go_wp2
    refine wp_region_grows (by kernel_rfl) (by kernel_rfl) ?_
    repeat (go_big_quiet_step ((fail)))
    refine wpQuiet_nil ?_
    rintro _ ⟨gg, rfl⟩
    go_wp2
    go_ret
    exact ⟨(by repeat (with_reducible first | exact Chg.refl _ _ | refine chg_m ?_ _ | refine chg_g ?_ _ | refine chg_alloc ?_ _ | refine chg_drew ?_ | refine chg_drewN ?_ _ | refine chg_set ?_ _ _ _)), .inl ⟨HNO.out, rfl⟩⟩
  have dd8 : decide (life ≤ xlife) = false := decide_eq_false (by omega)
  by_cases z2 : round < 1
  case pos => as_aux_lemma =>
    have HNO : Hid (r = none) := Lib.hid (HNS.out (by unfold Au.good; rintro ⟨h1, h2, h3, h4, h5⟩; have hg := h1 rfl; clear h1 h2 h3 h4 h5; dsimp only at hg; first | omega | simp_all))
    have dd9 : decide (round < 1) = true := decide_eq_true (by omega)
    clear z2
    go_enter Try.func39, Try.ntmps39
    go_wp2
    refine wp_region_grows (by kernel_rfl) (by kernel_rfl) ?_
    repeat (go_big_quiet_step ((go_at_call 44; exact grows_of (hbare _))))
    refine wpQuiet_nil ?_
    rintro _ ⟨gg, rfl⟩
    go_wp2
    refine wp_region_grows (by kernel_rfl) (by kernel_rfl) ?_
    repeat (go_big_quiet_step ((fail)))
    refine wpQuiet_nil ?_
    rintro _ ⟨gg, rfl⟩
    go_wp2
    refine wp_region_grows (by kernel_rfl) (by kernel_rfl) ?_
    repeat (go_big_quiet_step ((fail)))
    refine wpQuiet_nil ?_
    rintro _ ⟨gg, rfl⟩
    go_wp2
    refine wp_region_grows (by kernel_rfl) (by kernel_rfl) ?_
    repeat (go_big_quiet_step ((fail)))
    refine wpQuiet_nil ?_
    rintro _ ⟨gg, rfl⟩
    go_wp2
    refine wp_region_grows (by kernel_rfl) (by kernel_rfl) ?_
    repeat (go_big_quiet_step ((fail)))
    refine wpQuiet_nil ?_
    rintro _ ⟨gg, rfl⟩
    go_wp2
    go_ret
    exact ⟨(by repeat (with_reducible first | exact Chg.refl _ _ | refine chg_m ?_ _ | refine chg_g ?_ _ | refine chg_alloc ?_ _ | refine chg_drew ?_ | refine chg_drewN ?_ _ | refine chg_set ?_ _ _ _)), .inl ⟨HNO.out, rfl⟩⟩
  have dd10 : decide (round < 1) = false := decide_eq_false (by omega)
  by_cases z3 : 1099511627775 < round
  case pos => as_aux_lemma =>
    have HNO : Hid (r = none) := Lib.hid (HNS.out (by unfold Au.good; rintro ⟨h1, h2, h3, h4, h5⟩; have hg := h1 rfl; clear h1 h2 h3 h4 h5; dsimp only at hg; first | omega | simp_all))
    have dd11 : decide (1099511627775 < round) = true := decide_eq_true (by omega)
    clear z3
    go_enter Try.func39, Try.ntmps39
    go_wp2
    refine wp_region_grows (by kernel_rfl) (by kernel_rfl) ?_
    repeat (go_big_quiet_step ((go_at_call 44; exact grows_of (hbare _))))
    refine wpQuiet_nil ?_
    rintro _ ⟨gg, rfl⟩
    go_wp2
    refine wp_region_grows (by kernel_rfl) (by kernel_rfl) ?_
    repeat (go_big_quiet_step ((fail)))
    refine wpQuiet_nil ?_
    rintro _ ⟨gg, rfl⟩
    go_wp2
    refine wp_region_grows (by kernel_rfl) (by kernel_rfl) ?_
    repeat (go_big_quiet_step ((fail)))
    refine wpQuiet_nil ?_
    rintro _ ⟨gg, rfl⟩
    go_wp2
    refine wp_region_grows (by kernel_rfl) (by kernel_rfl) ?_
    repeat (go_big_quiet_step ((fail)))
    refine wpQuiet_nil ?_
    rintro _ ⟨gg, rfl⟩
    go_wp2
    refine wp_region_grows (by kernel_rfl) (by kernel_rfl) ?_
    repeat (go_big_quiet_step ((fail)))
    refine wpQuiet_nil ?_
    rintro _ ⟨gg, rfl⟩
    go_wp2
    go_ret
    exact ⟨(by repeat (with_reducible first | exact Chg.refl _ _ | refine chg_m ?_ _ | refine chg_g ?_ _ | refine chg_alloc ?_ _ | refine chg_drew ?_ | refine chg_drewN ?_ _ | refine chg_set ?_ _ _ _)), .inl ⟨HNO.out, rfl⟩⟩
  have dd12 : decide (1099511627775 < round) = false := decide_eq_false (by omega)
  by_cases z4 : round ≤ asked
  case pos => as_aux_lemma =>
    have HNO : Hid (r = none) := Lib.hid (HNS.out (by unfold Au.good; rintro ⟨h1, h2, h3, h4, h5⟩; have hg := h1 rfl; clear h1 h2 h3 h4 h5; dsimp only at hg; first | omega | simp_all))
    have dd13 : decide (round ≤ asked) = true := decide_eq_true (by omega)
    clear z4
    go_enter Try.func39, Try.ntmps39
    go_wp2
    refine wp_region_grows (by kernel_rfl) (by kernel_rfl) ?_
    repeat (go_big_quiet_step ((go_at_call 44; exact grows_of (hbare _))))
    refine wpQuiet_nil ?_
    rintro _ ⟨gg, rfl⟩
    go_wp2
    refine wp_region_grows (by kernel_rfl) (by kernel_rfl) ?_
    repeat (go_big_quiet_step ((fail)))
    refine wpQuiet_nil ?_
    rintro _ ⟨gg, rfl⟩
    go_wp2
    refine wp_region_grows (by kernel_rfl) (by kernel_rfl) ?_
    repeat (go_big_quiet_step ((fail)))
    refine wpQuiet_nil ?_
    rintro _ ⟨gg, rfl⟩
    go_wp2
    refine wp_region_grows (by kernel_rfl) (by kernel_rfl) ?_
    repeat (go_big_quiet_step ((fail)))
    refine wpQuiet_nil ?_
    rintro _ ⟨gg, rfl⟩
    go_wp2
    refine wp_region_grows (by kernel_rfl) (by kernel_rfl) ?_
    repeat (go_big_quiet_step ((fail)))
    refine wpQuiet_nil ?_
    rintro _ ⟨gg, rfl⟩
    go_wp2
    go_ret
    exact ⟨(by repeat (with_reducible first | exact Chg.refl _ _ | refine chg_m ?_ _ | refine chg_g ?_ _ | refine chg_alloc ?_ _ | refine chg_drew ?_ | refine chg_drewN ?_ _ | refine chg_set ?_ _ _ _)), .inl ⟨HNO.out, rfl⟩⟩
  have dd14 : decide (round ≤ asked) = false := decide_eq_false (by omega)
  by_cases z5 : tag < xtag
  case pos => as_aux_lemma =>
    have HNO : Hid (r = none) := Lib.hid (HNS.out (by unfold Au.good; rintro ⟨h1, h2, h3, h4, h5⟩; have hg := h1 rfl; clear h1 h2 h3 h4 h5; dsimp only at hg; first | omega | simp_all))
    have dd15 : decide (tag < xtag) = true := decide_eq_true (by omega)
    clear z5
    go_enter Try.func39, Try.ntmps39
    go_wp2
    refine wp_region_grows (by kernel_rfl) (by kernel_rfl) ?_
    repeat (go_big_quiet_step ((go_at_call 44; exact grows_of (hbare _))))
    refine wpQuiet_nil ?_
    rintro _ ⟨gg, rfl⟩
    go_wp2
    refine wp_region_grows (by kernel_rfl) (by kernel_rfl) ?_
    repeat (go_big_quiet_step ((fail)))
    refine wpQuiet_nil ?_
    rintro _ ⟨gg, rfl⟩
    go_wp2
    refine wp_region_grows (by kernel_rfl) (by kernel_rfl) ?_
    repeat (go_big_quiet_step ((fail)))
    refine wpQuiet_nil ?_
    rintro _ ⟨gg, rfl⟩
    go_wp2
    refine wp_region_grows (by kernel_rfl) (by kernel_rfl) ?_
    repeat (go_big_quiet_step ((fail)))
    refine wpQuiet_nil ?_
    rintro _ ⟨gg, rfl⟩
    go_wp2
    refine wp_region_grows (by kernel_rfl) (by kernel_rfl) ?_
    repeat (go_big_quiet_step ((fail)))
    refine wpQuiet_nil ?_
    rintro _ ⟨gg, rfl⟩
    go_wp2
    go_ret
    exact ⟨(by repeat (with_reducible first | exact Chg.refl _ _ | refine chg_m ?_ _ | refine chg_g ?_ _ | refine chg_alloc ?_ _ | refine chg_drew ?_ | refine chg_drewN ?_ _ | refine chg_set ?_ _ _ _)), .inl ⟨HNO.out, rfl⟩⟩
  have dd16 : decide (tag < xtag) = false := decide_eq_false (by omega)
  by_cases z6 : 1048576 < tag
  case pos => as_aux_lemma =>
    have HNO : Hid (r = none) := Lib.hid (HNS.out (by unfold Au.good; rintro ⟨h1, h2, h3, h4, h5⟩; have hg := h1 rfl; clear h1 h2 h3 h4 h5; dsimp only at hg; first | omega | simp_all))
    have dd17 : decide (1048576 < tag) = true := decide_eq_true (by omega)
    clear z6
    go_enter Try.func39, Try.ntmps39
    go_wp2
    refine wp_region_grows (by kernel_rfl) (by kernel_rfl) ?_
    repeat (go_big_quiet_step ((go_at_call 44; exact grows_of (hbare _))))
    refine wpQuiet_nil ?_
    rintro _ ⟨gg, rfl⟩
    go_wp2
    refine wp_region_grows (by kernel_rfl) (by kernel_rfl) ?_
    repeat (go_big_quiet_step ((fail)))
    refine wpQuiet_nil ?_
    rintro _ ⟨gg, rfl⟩
    go_wp2
    refine wp_region_grows (by kernel_rfl) (by kernel_rfl) ?_
    repeat (go_big_quiet_step ((fail)))
    refine wpQuiet_nil ?_
    rintro _ ⟨gg, rfl⟩
    go_wp2
    refine wp_region_grows (by kernel_rfl) (by kernel_rfl) ?_
    repeat (go_big_quiet_step ((fail)))
    refine wpQuiet_nil ?_
    rintro _ ⟨gg, rfl⟩
    go_wp2
    refine wp_region_grows (by kernel_rfl) (by kernel_rfl) ?_
    repeat (go_big_quiet_step ((fail)))
    refine wpQuiet_nil ?_
    rintro _ ⟨gg, rfl⟩
    go_wp2
    go_ret
    exact ⟨(by repeat (with_reducible first | exact Chg.refl _ _ | refine chg_m ?_ _ | refine chg_g ?_ _ | refine chg_alloc ?_ _ | refine chg_drew ?_ | refine chg_drewN ?_ _ | refine chg_set ?_ _ _ _)), .inl ⟨HNO.out, rfl⟩⟩
  have dd18 : decide (1048576 < tag) = false := decide_eq_false (by omega)
  have HYES := Lib.hid (HST.out (by unfold Au.good; exact ⟨(fun _ => ⟨rfl, by show xlife < life; omega, by show 1 ≤ round; omega, by show round ≤ 1099511627775; omega, by show asked < round; omega, by show xtag ≤ tag; omega, by show tag ≤ 1048576; omega⟩), (fun h => by cases h), (fun h => by cases h), (fun h => by cases h), (fun h => by cases h)⟩))
  clear z0
  clear z1
  clear z2
  clear z3
  clear z4
  clear z5
  clear z6
  go_enter Try.func39, Try.ntmps39
  go_wp2
  refine wp_region_grows (by kernel_rfl) (by kernel_rfl) ?_
  repeat (go_big_quiet_step ((go_at_call 44; exact grows_of (hbare _))))
  refine wpQuiet_nil ?_
  rintro _ ⟨gg, rfl⟩
  go_wp2
  refine wp_region_grows (by kernel_rfl) (by kernel_rfl) ?_
  repeat (go_big_quiet_step ((fail)))
  refine wpQuiet_nil ?_
  rintro _ ⟨gg, rfl⟩
  go_wp2
  refine wp_region_grows (by kernel_rfl) (by kernel_rfl) ?_
  repeat (go_big_quiet_step ((fail)))
  refine wpQuiet_nil ?_
  rintro _ ⟨gg, rfl⟩
  go_wp2
  refine wp_region_grows (by kernel_rfl) (by kernel_rfl) ?_
  repeat (go_big_quiet_step ((fail)))
  refine wpQuiet_nil ?_
  rintro _ ⟨gg, rfl⟩
  go_wp2
  refine wp_region_grows (by kernel_rfl) (by kernel_rfl) ?_
  repeat (go_big_quiet_step ((fail)))
  refine wpQuiet_nil ?_
  rintro _ ⟨gg, rfl⟩
  go_wp2
  go_region
  go_wp2
  go_ret
  refine ⟨(by repeat (with_reducible first | exact Chg.refl _ _ | refine chg_m ?_ _ | refine chg_g ?_ _ | refine chg_alloc ?_ _ | refine chg_drew ?_ | refine chg_drewN ?_ _ | refine chg_set ?_ _ _ _)), .inr ⟨_, HYES.out, rfl, _, DeskRaw.drew (DeskRaw.set _ _ (DeskRaw.set _ _ (DeskRaw.set _ _ (DeskRaw.set _ _ (DeskRaw.set _ _ (HR.out.grow (by repeat (with_reducible first | exact Chg.refl _ _ | refine chg_m ?_ _ | refine chg_g ?_ _ | refine chg_alloc ?_ _ | refine chg_drew ?_ | refine chg_drewN ?_ _ | refine chg_set ?_ _ _ _)))))))), ?_⟩⟩
  have hsz := HD.out.size
  have HREP := Rep.node (cs' := (((((cs.setIfInBounds (2 + i * 6) (.bool true)).setIfInBounds (2 + i * 6 + 1) (iv life)).setIfInBounds (2 + i * 6 + 2) (iv life)).setIfInBounds (2 + i * 6 + 3) (iv round)).setIfInBounds (2 + i * 6 + 5) (iv tag))) (y := ⟨true, life, asked, tag, round⟩) HD.out HX.out (by simp [hsz]) (fun k hk => by
    have hb := HD.out.nd i _ HX.out k hk
    rcases (show k = 0 ∨ k = 1 ∨ k = 2 ∨ k = 3 ∨ k = 4 ∨ k = 5 by omega) with rfl | rfl | rfl | rfl | rfl | rfl
    all_goals
      simp [Array.getElem?_setIfInBounds, hsz, dcells] at hb ⊢
      first | done | exact hb | omega | (simp only [hb]; done) | (rw [hb]; congr 2; omega)) (fun m hm => by rw [Array.getElem?_setIfInBounds_ne (by omega)]; rw [Array.getElem?_setIfInBounds_ne (by omega)]; rw [Array.getElem?_setIfInBounds_ne (by omega)]; rw [Array.getElem?_setIfInBounds_ne (by omega)]; rw [Array.getElem?_setIfInBounds_ne (by omega)])
  simpa [Nd.next] using HREP.lastany (-1) rfl
end Go.Proofs.Yteemkceceaabkaa
