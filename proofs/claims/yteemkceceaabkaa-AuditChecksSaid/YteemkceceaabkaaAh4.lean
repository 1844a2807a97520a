/- The reference's holds at kind 4. -/
import Derived.Test.YteemkceceaabkaaAh0
set_option linter.unusedSimpArgs false
set_option linter.unusedVariables false
namespace Go.Proofs.Yteemkceceaabkaa
open Go.RowKit Go.Ear
set_option maxHeartbeats 8000000
set_option maxRecDepth 100000
set_option linter.unusedSimpArgs false
attribute [local go_sem ↓] Go.wp_at_zero Go.wp_at_succ

theorem holds_k4 (w : World) (p n f i : Nat) (nodes : List Nd) (shut : Ev) (row : Bool) (last : Int) (life round tag of dur : Int) (ha hb hc hd ua ub uc ud : Nat) (up : Bool) (xlife asked xtag opn : Int)
    (hD : DeskIs w p n f ⟨nodes, row, shut, last⟩) (hx : nodes[i]? = some ⟨up, xlife, asked, xtag, opn⟩) (he : Ev.ok (⟨4, (i : Int), life, round, tag, of, dur, ⟨ha, hb, hc, hd⟩, ⟨ua, ub, uc, ud⟩⟩ : Ev)) (hfit : Ev.fit n (⟨4, (i : Int), life, round, tag, of, dur, ⟨ha, hb, hc, hd⟩, ⟨ua, ub, uc, ud⟩⟩ : Ev)) (hbr : Ev.bare (⟨4, (i : Int), life, round, tag, of, dur, ⟨ha, hb, hc, hd⟩, ⟨ua, ub, uc, ud⟩⟩ : Ev)) (hrow : row = true) (hq : (i : Int) = shut.node) (hup : up = true) (hlf : life = xlife) :
    Calls Try.prog 39 #[.pointer (some ⟨p, 0, none⟩), .agg #[iv 4, iv (i : Int), iv life, iv round, iv tag, iv of, iv dur, u32v ha, u32v hb, u32v hc, u32v hd, u32v ua, u32v ub, u32v uc, u32v ud]] w (Held w p n f (Au.step n f ⟨nodes, row, shut, last⟩ (⟨4, (i : Int), life, round, tag, of, dur, ⟨ha, hb, hc, hd⟩, ⟨ua, ub, uc, ud⟩⟩ : Ev))) := by
  subst hrow
  subst hup
  subst hlf
  obtain ⟨cs, hR, hD⟩ := hD
  have hlen := hD.len
  have h100 := hD.n100
  have hfn := hD.fn
  simp only at hlen
  have hil := (List.getElem?_eq_some_iff.1 hx).1
  have hin : (i : Int) < (n : Int) := by omega
  have hi0 : (0 : Int) ≤ (i : Int) := by omega
  have hih : (i : Int) < 100 := by omega
  have hl1 := hfit.2.2.2.2.1
  have hl2 := hfit.2.2.2.2.2
  simp only at hl1 hl2
  have mp : May p (fun k => k = p) w := ⟨.inl rfl⟩
  obtain ⟨c0, f0, k0⟩ := hR.cell hD.c0
  obtain ⟨c1, f1, k1⟩ := hR.cell hD.c1
  obtain ⟨cr, fr, kr⟩ := hR.cell (v := .bool true) hD.row
  obtain ⟨d0, g0, m0⟩ := hR.cell (v := .bool true) (hD.nd i _ hx 0 (by decide))
  obtain ⟨d1, g1, m1⟩ := hR.cell (v := iv life) (hD.nd i _ hx 1 (by decide))
  obtain ⟨d2, g2, m2⟩ := hR.cell (v := iv life) (hD.nd i _ hx 2 (by decide))
  obtain ⟨d3, g3, m3⟩ := hR.cell (v := iv opn) (hD.nd i _ hx 3 (by decide))
  obtain ⟨d4, g4, m4⟩ := hR.cell (v := iv asked) (hD.nd i _ hx 4 (by decide))
  obtain ⟨d5, g5, m5⟩ := hR.cell (v := iv xtag) (hD.nd i _ hx 5 (by decide))
  simp only [Nat.add_zero] at d0 g0 m0
  obtain ⟨s1, t1, v1⟩ := hR.cell (v := iv shut.node) (hD.shut 1 (by decide))
  obtain ⟨s3, t3, v3⟩ := hR.cell (v := iv shut.round) (hD.shut 3 (by decide))
  obtain ⟨s11, t11, v11⟩ := hR.cell (v := u32v shut.union.a) (hD.shut 11 (by decide))
  obtain ⟨s12, t12, v12⟩ := hR.cell (v := u32v shut.union.b) (hD.shut 12 (by decide))
  obtain ⟨s13, t13, v13⟩ := hR.cell (v := u32v shut.union.c) (hD.shut 13 (by decide))
  obtain ⟨s14, t14, v14⟩ := hR.cell (v := u32v shut.union.d) (hD.shut 14 (by decide))
  simp only [Nat.reduceAdd] at s1 t1 v1 s3 t3 v3 s11 t11 v11 s12 t12 v12 s13 t13 v13 s14 t14 v14
  obtain ⟨la, hla, hlast⟩ := hD.last
  obtain ⟨cl, fl, kl⟩ := hR.cell hla
  have jp : Old p w := ⟨hR.lt⟩
  have hbare : ∀ W, Calls Try.prog 44 #[.agg #[iv 4, iv (i : Int), iv life, iv round, iv tag, iv of, iv dur, u32v ha, u32v hb, u32v hc, u32v hd, u32v ua, u32v ub, u32v uc, u32v ud]] W (Gr (.bool true) W) := fun W => by
    have := bare_any 4 i life round tag of dur ha hb hc hd ua ub uc ud hfit.1 hfit.2.1 W
    rwa [decide_eq_true hbr] at this
  have x1 : decide ((i : Int) < 0) = false := decide_eq_false (by omega)
  have x2 : decide (n ≤ i) = false := decide_eq_false (by omega)
  have x3 : decide (life < 1) = false := decide_eq_false (by omega)
  have x4 : decide (1073741824 < life) = false := decide_eq_false (by omega)
  have ela := (hlast rfl).symm
  simp only at ela
  subst ela
  have hstep := fun hg => step_yes (n := n) (f := f) (s := ⟨nodes, true, shut, last⟩) (e := (⟨4, (i : Int), life, round, tag, of, dur, ⟨ha, hb, hc, hd⟩, ⟨ua, ub, uc, ud⟩⟩ : Ev)) (x := ⟨true, life, asked, xtag, opn⟩) hfit hbr rfl hx ⟨fun _ => ⟨.inl rfl, hq⟩, .inl rfl⟩ (.inr ⟨rfl, rfl⟩) hg
  have hnost := fun (h : ¬ Au.good n f ⟨nodes, true, shut, last⟩ ⟨true, life, asked, xtag, opn⟩ (⟨4, (i : Int), life, round, tag, of, dur, ⟨ha, hb, hc, hd⟩, ⟨ua, ub, uc, ud⟩⟩ : Ev)) => step_no (n := n) (f := f) (s := ⟨nodes, true, shut, last⟩) (e := (⟨4, (i : Int), life, round, tag, of, dur, ⟨ha, hb, hc, hd⟩, ⟨ua, ub, uc, ud⟩⟩ : Ev)) (x := ⟨true, life, asked, xtag, opn⟩) rfl hx (fun (g : _ ∧ _ ∧ _) => h g.2.2)
  have y1 : ((i : Int) != shut.node) = false := by rw [bne_eq_false_iff_eq]; exact hq
  clear hq
  have y6 : ((life : Int) != life) = false := by simp
  have hgd : Au.good n f ⟨nodes, true, shut, last⟩ ⟨true, life, asked, xtag, opn⟩ (⟨4, (i : Int), life, round, tag, of, dur, ⟨ha, hb, hc, hd⟩, ⟨ua, ub, uc, ud⟩⟩ : Ev) ↔ (0 ≤ of ∧ of < (n : Int) ∧ St.has shut.union of = false ∧ last < of ∧ 0 ≤ tag ∧ tag ≤ 1048576 ∧ round = shut.round) := by
    unfold Au.good
    constructor
    · rintro ⟨_, _, h3, h4, _⟩
      exact h4 rfl
    · intro h
      refine ⟨?_, ?_, ?_, ?_, ?_⟩ <;> first | exact (fun _ => h) | (intro h'; cases h')
  replace hstep := fun (h : 0 ≤ of ∧ of < (n : Int) ∧ St.has shut.union of = false ∧ last < of ∧ 0 ≤ tag ∧ tag ≤ 1048576 ∧ round = shut.round) => hstep (hgd.2 h)
  replace hnost := fun (h : ¬ (0 ≤ of ∧ of < (n : Int) ∧ St.has shut.union of = false ∧ last < of ∧ 0 ≤ tag ∧ tag ≤ 1048576 ∧ round = shut.round)) => hnost (fun g => h (hgd.1 g))
  clear hgd
  have hh : ∀ W, Calls Try.prog 47 #[.agg #[u32v shut.union.a, u32v shut.union.b, u32v shut.union.c, u32v shut.union.d], iv of] W (Gr (.bool (St.has shut.union of)) W) := fun W => hasR_any shut.union hD.ok.2 of W
  generalize St.has shut.union of = b3 at *
  have HST := Lib.hid hstep
  have HNS := Lib.hid hnost
  generalize Au.step n f ⟨nodes, true, shut, last⟩ (⟨4, (i : Int), life, round, tag, of, dur, ⟨ha, hb, hc, hd⟩, ⟨ua, ub, uc, ud⟩⟩ : Ev) = r at *
  clear hfit hstep hnost
  have HE := Lib.hid he
  clear he
  have HR := Lib.hid hR
  have HD := Lib.hid hD
  have HX := Lib.hid hx
  clear hR hD hx hbr hlen hil
  by_cases z0 : of < 0
  case pos => as_aux_lemma =>
    have HNO : Hid (r = none) := Lib.hid (HNS.out (by rintro ⟨h1, h2, h3, h4, h5, h6, h7⟩; first | omega | contradiction | simp_all))
    have dd23 : decide (of < 0) = true := decide_eq_true (by omega)
    clear z0
    go_enter Try.func39, Try.ntmps39
    go_wp2
    refine wp_region_grows (by kernel_rfl) (by kernel_rfl) ?_
    repeat (go_big_quiet_step ((go_at_call 44; exact grows_of (hbare _))))
    refine wpQuiet_nil ?_
    rintro _ ⟨gg, rfl⟩
    go_wp2
    refine wp_region_grows (by kernel_rfl) (by kernel_rfl) ?_
    repeat (go_big_quiet_step ((fail)))
    refine wpQuiet_nil ?_
    rintro _ ⟨gg, rfl⟩
    go_wp2
    refine wp_region_grows (by kernel_rfl) (by kernel_rfl) ?_
    repeat (go_big_quiet_step ((fail)))
    refine wpQuiet_nil ?_
    rintro _ ⟨gg, rfl⟩
    go_wp2
    refine wp_region_grows (by kernel_rfl) (by kernel_rfl) ?_
    repeat (go_big_quiet_step ((fail)))
    refine wpQuiet_nil ?_
    rintro _ ⟨gg, rfl⟩
    go_wp2
    refine wp_region_grows (by kernel_rfl) (by kernel_rfl) ?_
    repeat (go_big_quiet_step (((first | (go_at_call 47; exact grows_of (hh _)) | (go_at_call 44; exact grows_of (hbare _))))))
    refine wpQuiet_nil ?_
    rintro _ ⟨gg, rfl⟩
    go_wp2
    go_ret
    exact ⟨(by repeat (with_reducible first | exact Chg.refl _ _ | refine chg_m ?_ _ | refine chg_g ?_ _ | refine chg_alloc ?_ _ | refine chg_drew ?_ | refine chg_drewN ?_ _ | refine chg_set ?_ _ _ _)), .inl ⟨HNO.out, rfl⟩⟩
  have dd24 : decide (of < 0) = false := decide_eq_false (by omega)
  by_cases z1 : (n : Int) ≤ of
  case pos => as_aux_lemma =>
    have HNO : Hid (r = none) := Lib.hid (HNS.out (by rintro ⟨h1, h2, h3, h4, h5, h6, h7⟩; first | omega | contradiction | simp_all))
    have dd25 : decide ((n : Int) ≤ of) = true := decide_eq_true (by omega)
    clear z1
    go_enter Try.func39, Try.ntmps39
    go_wp2
    refine wp_region_grows (by kernel_rfl) (by kernel_rfl) ?_
    repeat (go_big_quiet_step ((go_at_call 44; exact grows_of (hbare _))))
    refine wpQuiet_nil ?_
    rintro _ ⟨gg, rfl⟩
    go_wp2
    refine wp_region_grows (by kernel_rfl) (by kernel_rfl) ?_
    repeat (go_big_quiet_step ((fail)))
    refine wpQuiet_nil ?_
    rintro _ ⟨gg, rfl⟩
    go_wp2
    refine wp_region_grows (by kernel_rfl) (by kernel_rfl) ?_
    repeat (go_big_quiet_step ((fail)))
    refine wpQuiet_nil ?_
    rintro _ ⟨gg, rfl⟩
    go_wp2
    refine wp_region_grows (by kernel_rfl) (by kernel_rfl) ?_
    repeat (go_big_quiet_step ((fail)))
    refine wpQuiet_nil ?_
    rintro _ ⟨gg, rfl⟩
    go_wp2
    refine wp_region_grows (by kernel_rfl) (by kernel_rfl) ?_
    repeat (go_big_quiet_step (((first | (go_at_call 47; exact grows_of (hh _)) | (go_at_call 44; exact grows_of (hbare _))))))
    refine wpQuiet_nil ?_
    rintro _ ⟨gg, rfl⟩
    go_wp2
    go_ret
    exact ⟨(by repeat (with_reducible first | exact Chg.refl _ _ | refine chg_m ?_ _ | refine chg_g ?_ _ | refine chg_alloc ?_ _ | refine chg_drew ?_ | refine chg_drewN ?_ _ | refine chg_set ?_ _ _ _)), .inl ⟨HNO.out, rfl⟩⟩
  have dd26 : decide ((n : Int) ≤ of) = false := decide_eq_false (by omega)
  by_cases z2 : b3 = true
  case pos => as_aux_lemma =>
    have HNO : Hid (r = none) := Lib.hid (HNS.out (by rintro ⟨h1, h2, h3, h4, h5, h6, h7⟩; (rw [h3] at z2; cases z2)))
    subst z2
    go_enter Try.func39, Try.ntmps39
    go_wp2
    refine wp_region_grows (by kernel_rfl) (by kernel_rfl) ?_
    repeat (go_big_quiet_step ((go_at_call 44; exact grows_of (hbare _))))
    refine wpQuiet_nil ?_
    rintro _ ⟨gg, rfl⟩
    go_wp2
    refine wp_region_grows (by kernel_rfl) (by kernel_rfl) ?_
    repeat (go_big_quiet_step ((fail)))
    refine wpQuiet_nil ?_
    rintro _ ⟨gg, rfl⟩
    go_wp2
    refine wp_region_grows (by kernel_rfl) (by kernel_rfl) ?_
    repeat (go_big_quiet_step ((fail)))
    refine wpQuiet_nil ?_
    rintro _ ⟨gg, rfl⟩
    go_wp2
    refine wp_region_grows (by kernel_rfl) (by kernel_rfl) ?_
    repeat (go_big_quiet_step ((fail)))
    refine wpQuiet_nil ?_
    rintro _ ⟨gg, rfl⟩
    go_wp2
    refine wp_region_grows (by kernel_rfl) (by kernel_rfl) ?_
    repeat (go_big_quiet_step (((first | (go_at_call 47; exact grows_of (hh _)) | (go_at_call 44; exact grows_of (hbare _))))))
    refine wpQuiet_nil ?_
    rintro _ ⟨gg, rfl⟩
    go_wp2
    go_ret
    exact ⟨(by repeat (with_reducible first | exact Chg.refl _ _ | refine chg_m ?_ _ | refine chg_g ?_ _ | refine chg_alloc ?_ _ | refine chg_drew ?_ | refine chg_drewN ?_ _ | refine chg_set ?_ _ _ _)), .inl ⟨HNO.out, rfl⟩⟩
  obtain rfl : b3 = false := by simpa using z2
  by_cases z3 : of ≤ last
  case pos => as_aux_lemma =>
    have HNO : Hid (r = none) := Lib.hid (HNS.out (by rintro ⟨h1, h2, h3, h4, h5, h6, h7⟩; first | omega | contradiction | simp_all))
    have dd27 : decide (of ≤ last) = true := decide_eq_true (by omega)
    clear z3
    go_enter Try.func39, Try.ntmps39
    go_wp2
    refine wp_region_grows (by kernel_rfl) (by kernel_rfl) ?_
    repeat (go_big_quiet_step ((go_at_call 44; exact grows_of (hbare _))))
    refine wpQuiet_nil ?_
    rintro _ ⟨gg, rfl⟩
    go_wp2
    refine wp_region_grows (by kernel_rfl) (by kernel_rfl) ?_
    repeat (go_big_quiet_step ((fail)))
    refine wpQuiet_nil ?_
    rintro _ ⟨gg, rfl⟩
    go_wp2
    refine wp_region_grows (by kernel_rfl) (by kernel_rfl) ?_
    repeat (go_big_quiet_step ((fail)))
    refine wpQuiet_nil ?_
    rintro _ ⟨gg, rfl⟩
    go_wp2
    refine wp_region_grows (by kernel_rfl) (by kernel_rfl) ?_
    repeat (go_big_quiet_step ((fail)))
    refine wpQuiet_nil ?_
    rintro _ ⟨gg, rfl⟩
    go_wp2
    refine wp_region_grows (by kernel_rfl) (by kernel_rfl) ?_
    repeat (go_big_quiet_step (((first | (go_at_call 47; exact grows_of (hh _)) | (go_at_call 44; exact grows_of (hbare _))))))
    refine wpQuiet_nil ?_
    rintro _ ⟨gg, rfl⟩
    go_wp2
    go_ret
    exact ⟨(by repeat (with_reducible first | exact Chg.refl _ _ | refine chg_m ?_ _ | refine chg_g ?_ _ | refine chg_alloc ?_ _ | refine chg_drew ?_ | refine chg_drewN ?_ _ | refine chg_set ?_ _ _ _)), .inl ⟨HNO.out, rfl⟩⟩
  have dd28 : decide (of ≤ last) = false := decide_eq_false (by omega)
  by_cases z4 : tag < 0
  case pos => as_aux_lemma =>
    have HNO : Hid (r = none) := Lib.hid (HNS.out (by rintro ⟨h1, h2, h3, h4, h5, h6, h7⟩; first | omega | contradiction | simp_all))
    have dd29 : decide (tag < 0) = true := decide_eq_true (by omega)
    clear z4
    go_enter Try.func39, Try.ntmps39
    go_wp2
    refine wp_region_grows (by kernel_rfl) (by kernel_rfl) ?_
    repeat (go_big_quiet_step ((go_at_call 44; exact grows_of (hbare _))))
    refine wpQuiet_nil ?_
    rintro _ ⟨gg, rfl⟩
    go_wp2
    refine wp_region_grows (by kernel_rfl) (by kernel_rfl) ?_
    repeat (go_big_quiet_step ((fail)))
    refine wpQuiet_nil ?_
    rintro _ ⟨gg, rfl⟩
    go_wp2
    refine wp_region_grows (by kernel_rfl) (by kernel_rfl) ?_
    repeat (go_big_quiet_step ((fail)))
    refine wpQuiet_nil ?_
    rintro _ ⟨gg, rfl⟩
    go_wp2
    refine wp_region_grows (by kernel_rfl) (by kernel_rfl) ?_
    repeat (go_big_quiet_step ((fail)))
    refine wpQuiet_nil ?_
    rintro _ ⟨gg, rfl⟩
    go_wp2
    refine wp_region_grows (by kernel_rfl) (by kernel_rfl) ?_
    repeat (go_big_quiet_step (((first | (go_at_call 47; exact grows_of (hh _)) | (go_at_call 44; exact grows_of (hbare _))))))
    refine wpQuiet_nil ?_
    rintro _ ⟨gg, rfl⟩
    go_wp2
    go_ret
    exact ⟨(by repeat (with_reducible first | exact Chg.refl _ _ | refine chg_m ?_ _ | refine chg_g ?_ _ | refine chg_alloc ?_ _ | refine chg_drew ?_ | refine chg_drewN ?_ _ | refine chg_set ?_ _ _ _)), .inl ⟨HNO.out, rfl⟩⟩
  have dd30 : decide (tag < 0) = false := decide_eq_false (by omega)
  by_cases z5 : 1048576 < tag
  case pos => as_aux_lemma =>
    have HNO : Hid (r = none) := Lib.hid (HNS.out (by rintro ⟨h1, h2, h3, h4, h5, h6, h7⟩; first | omega | contradiction | simp_all))
    have dd31 : decide (1048576 < tag) = true := decide_eq_true (by omega)
    clear z5
    go_enter Try.func39, Try.ntmps39
    go_wp2
    refine wp_region_grows (by kernel_rfl) (by kernel_rfl) ?_
    repeat (go_big_quiet_step ((go_at_call 44; exact grows_of (hbare _))))
    refine wpQuiet_nil ?_
    rintro _ ⟨gg, rfl⟩
    go_wp2
    refine wp_region_grows (by kernel_rfl) (by kernel_rfl) ?_
    repeat (go_big_quiet_step ((fail)))
    refine wpQuiet_nil ?_
    rintro _ ⟨gg, rfl⟩
    go_wp2
    refine wp_region_grows (by kernel_rfl) (by kernel_rfl) ?_
    repeat (go_big_quiet_step ((fail)))
    refine wpQuiet_nil ?_
    rintro _ ⟨gg, rfl⟩
    go_wp2
    refine wp_region_grows (by kernel_rfl) (by kernel_rfl) ?_
    repeat (go_big_quiet_step ((fail)))
    refine wpQuiet_nil ?_
    rintro _ ⟨gg, rfl⟩
    go_wp2
    refine wp_region_grows (by kernel_rfl) (by kernel_rfl) ?_
    repeat (go_big_quiet_step (((first | (go_at_call 47; exact grows_of (hh _)) | (go_at_call 44; exact grows_of (hbare _))))))
    refine wpQuiet_nil ?_
    rintro _ ⟨gg, rfl⟩
    go_wp2
    go_ret
    exact ⟨(by repeat (with_reducible first | exact Chg.refl _ _ | refine chg_m ?_ _ | refine chg_g ?_ _ | refine chg_alloc ?_ _ | refine chg_drew ?_ | refine chg_drewN ?_ _ | refine chg_set ?_ _ _ _)), .inl ⟨HNO.out, rfl⟩⟩
  have dd32 : decide (1048576 < tag) = false := decide_eq_false (by omega)
  by_cases z6 : ¬ round = shut.round
  case pos => as_aux_lemma =>
    have HNO : Hid (r = none) := Lib.hid (HNS.out (by rintro ⟨h1, h2, h3, h4, h5, h6, h7⟩; first | omega | contradiction | simp_all))
    have wz6 : (round != shut.round) = true := by rw [bne_iff_ne]; exact z6
    clear z6
    go_enter Try.func39, Try.ntmps39
    go_wp2
    refine wp_region_grows (by kernel_rfl) (by kernel_rfl) ?_
    repeat (go_big_quiet_step ((go_at_call 44; exact grows_of (hbare _))))
    refine wpQuiet_nil ?_
    rintro _ ⟨gg, rfl⟩
    go_wp2
    refine wp_region_grows (by kernel_rfl) (by kernel_rfl) ?_
    repeat (go_big_quiet_step ((fail)))
    refine wpQuiet_nil ?_
    rintro _ ⟨gg, rfl⟩
    go_wp2
    refine wp_region_grows (by kernel_rfl) (by kernel_rfl) ?_
    repeat (go_big_quiet_step ((fail)))
    refine wpQuiet_nil ?_
    rintro _ ⟨gg, rfl⟩
    go_wp2
    refine wp_region_grows (by kernel_rfl) (by kernel_rfl) ?_
    repeat (go_big_quiet_step ((fail)))
    refine wpQuiet_nil ?_
    rintro _ ⟨gg, rfl⟩
    go_wp2
    refine wp_region_grows (by kernel_rfl) (by kernel_rfl) ?_
    repeat (go_big_quiet_step (((first | (go_at_call 47; exact grows_of (hh _)) | (go_at_call 44; exact grows_of (hbare _))))))
    refine wpQuiet_nil ?_
    rintro _ ⟨gg, rfl⟩
    go_wp2
    go_ret
    exact ⟨(by repeat (with_reducible first | exact Chg.refl _ _ | refine chg_m ?_ _ | refine chg_g ?_ _ | refine chg_alloc ?_ _ | refine chg_drew ?_ | refine chg_drewN ?_ _ | refine chg_set ?_ _ _ _)), .inl ⟨HNO.out, rfl⟩⟩
  have wz6 : (round != shut.round) = false := by rw [bne_eq_false_iff_eq]; exact Decidable.not_not.1 z6
  have HYES := Lib.hid (HST.out (by exact ⟨by omega, by omega, rfl, by omega, by omega, by omega, Decidable.not_not.1 z6⟩))
  clear z0
  clear z1
  clear z2
  clear z3
  clear z4
  clear z5
  clear z6
  go_enter Try.func39, Try.ntmps39
  go_wp2
  refine wp_region_grows (by kernel_rfl) (by kernel_rfl) ?_
  repeat (go_big_quiet_step ((go_at_call 44; exact grows_of (hbare _))))
  refine wpQuiet_nil ?_
  rintro _ ⟨gg, rfl⟩
  go_wp2
  refine wp_region_grows (by kernel_rfl) (by kernel_rfl) ?_
  repeat (go_big_quiet_step ((fail)))
  refine wpQuiet_nil ?_
  rintro _ ⟨gg, rfl⟩
  go_wp2
  refine wp_region_grows (by kernel_rfl) (by kernel_rfl) ?_
  repeat (go_big_quiet_step ((fail)))
  refine wpQuiet_nil ?_
  rintro _ ⟨gg, rfl⟩
  go_wp2
  refine wp_region_grows (by kernel_rfl) (by kernel_rfl) ?_
  repeat (go_big_quiet_step ((fail)))
  refine wpQuiet_nil ?_
  rintro _ ⟨gg, rfl⟩
  go_wp2
  refine wp_region_grows (by kernel_rfl) (by kernel_rfl) ?_
  repeat (go_big_quiet_step (((first | (go_at_call 47; exact grows_of (hh _)) | (go_at_call 44; exact grows_of (hbare _))))))
  refine wpQuiet_nil ?_
  rintro _ ⟨gg, rfl⟩
  go_wp2
  go_ret
  refine ⟨(by repeat (with_reducible first | exact Chg.refl _ _ | refine chg_m ?_ _ | refine chg_g ?_ _ | refine chg_alloc ?_ _ | refine chg_drew ?_ | refine chg_drewN ?_ _ | refine chg_set ?_ _ _ _)), .inr ⟨_, HYES.out, rfl, _, DeskRaw.set _ _ (HR.out.grow (by repeat (with_reducible first | exact Chg.refl _ _ | refine chg_m ?_ _ | refine chg_g ?_ _ | refine chg_alloc ?_ _ | refine chg_drew ?_ | refine chg_drewN ?_ _ | refine chg_set ?_ _ _ _))), ?_⟩⟩
  have HREP := HD.out.relast of
  have hset : nodes.set i ⟨true, life, asked, xtag, opn⟩ = nodes := by
    obtain ⟨hl, hv⟩ := List.getElem?_eq_some_iff.1 HX.out
    rw [← hv, List.set_getElem_self]
  simpa [Nd.next, hset] using HREP
end Go.Proofs.Yteemkceceaabkaa
