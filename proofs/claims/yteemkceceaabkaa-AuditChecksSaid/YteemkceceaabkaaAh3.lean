/- The reference's holds at kind 3. -/
import Derived.Test.YteemkceceaabkaaAh0
set_option linter.unusedSimpArgs false
set_option linter.unusedVariables false
namespace Go.Proofs.Yteemkceceaabkaa
open Go.RowKit Go.Ear
set_option maxHeartbeats 8000000
set_option maxRecDepth 100000
set_option linter.unusedSimpArgs false
attribute [local go_sem ↓] Go.wp_at_zero Go.wp_at_succ

theorem holds_k3 (w : World) (p n f i : Nat) (nodes : List Nd) (shut : Ev) (row : Bool) (last : Int) (life round tag of dur : Int) (ha hb hc hd ua ub uc ud : Nat) (up : Bool) (xlife asked xtag opn : Int)
    (hD : DeskIs w p n f ⟨nodes, row, shut, last⟩) (hx : nodes[i]? = some ⟨up, xlife, asked, xtag, opn⟩) (he : Ev.ok (⟨3, (i : Int), life, round, tag, of, dur, ⟨ha, hb, hc, hd⟩, ⟨ua, ub, uc, ud⟩⟩ : Ev)) (hfit : Ev.fit n (⟨3, (i : Int), life, round, tag, of, dur, ⟨ha, hb, hc, hd⟩, ⟨ua, ub, uc, ud⟩⟩ : Ev)) (hbr : Ev.bare (⟨3, (i : Int), life, round, tag, of, dur, ⟨ha, hb, hc, hd⟩, ⟨ua, ub, uc, ud⟩⟩ : Ev)) (hrow : row = false) (hup : up = true) (hlf : life = xlife) :
    Calls Try.prog 39 #[.pointer (some ⟨p, 0, none⟩), .agg #[iv 3, iv (i : Int), iv life, iv round, iv tag, iv of, iv dur, u32v ha, u32v hb, u32v hc, u32v hd, u32v ua, u32v ub, u32v uc, u32v ud]] w (Held w p n f (Au.step n f ⟨nodes, row, shut, last⟩ (⟨3, (i : Int), life, round, tag, of, dur, ⟨ha, hb, hc, hd⟩, ⟨ua, ub, uc, ud⟩⟩ : Ev))) := by
  subst hrow
  subst hup
  subst hlf
  obtain ⟨cs, hR, hD⟩ := hD
  have hlen := hD.len
  have h100 := hD.n100
  have hfn := hD.fn
  simp only at hlen
  have hil := (List.getElem?_eq_some_iff.1 hx).1
  have hin : (i : Int) < (n : Int) := by omega
  have hi0 : (0 : Int) ≤ (i : Int) := by omega
  have hih : (i : Int) < 100 := by omega
  have hl1 := hfit.2.2.2.2.1
  have hl2 := hfit.2.2.2.2.2
  simp only at hl1 hl2
  have mp : May p (fun k => k = p) w := ⟨.inl rfl⟩
  obtain ⟨c0, f0, k0⟩ := hR.cell hD.c0
  obtain ⟨c1, f1, k1⟩ := hR.cell hD.c1
  obtain ⟨cr, fr, kr⟩ := hR.cell (v := .bool false) hD.row
  obtain ⟨d0, g0, m0⟩ := hR.cell (v := .bool true) (hD.nd i _ hx 0 (by decide))
  obtain ⟨d1, g1, m1⟩ := hR.cell (v := iv life) (hD.nd i _ hx 1 (by decide))
  obtain ⟨d2, g2, m2⟩ := hR.cell (v := iv life) (hD.nd i _ hx 2 (by decide))
  obtain ⟨d3, g3, m3⟩ := hR.cell (v := iv opn) (hD.nd i _ hx 3 (by decide))
  obtain ⟨d4, g4, m4⟩ := hR.cell (v := iv asked) (hD.nd i _ hx 4 (by decide))
  obtain ⟨d5, g5, m5⟩ := hR.cell (v := iv xtag) (hD.nd i _ hx 5 (by decide))
  simp only [Nat.add_zero] at d0 g0 m0
  obtain ⟨s0, t0, v0⟩ := hR.cell (v := iv shut.kind) (hD.shut 0 (by decide))
  obtain ⟨s1, t1, v1⟩ := hR.cell (v := iv shut.node) (hD.shut 1 (by decide))
  obtain ⟨s2, t2, v2⟩ := hR.cell (v := iv shut.life) (hD.shut 2 (by decide))
  obtain ⟨s3, t3, v3⟩ := hR.cell (v := iv shut.round) (hD.shut 3 (by decide))
  obtain ⟨s4, t4, v4⟩ := hR.cell (v := iv shut.tag) (hD.shut 4 (by decide))
  obtain ⟨s5, t5, v5⟩ := hR.cell (v := iv shut.of) (hD.shut 5 (by decide))
  obtain ⟨s6, t6, v6⟩ := hR.cell (v := iv shut.dur) (hD.shut 6 (by decide))
  obtain ⟨s7, t7, v7⟩ := hR.cell (v := u32v shut.heard.a) (hD.shut 7 (by decide))
  obtain ⟨s8, t8, v8⟩ := hR.cell (v := u32v shut.heard.b) (hD.shut 8 (by decide))
  obtain ⟨s9, t9, v9⟩ := hR.cell (v := u32v shut.heard.c) (hD.shut 9 (by decide))
  obtain ⟨s10, t10, v10⟩ := hR.cell (v := u32v shut.heard.d) (hD.shut 10 (by decide))
  obtain ⟨s11, t11, v11⟩ := hR.cell (v := u32v shut.union.a) (hD.shut 11 (by decide))
  obtain ⟨s12, t12, v12⟩ := hR.cell (v := u32v shut.union.b) (hD.shut 12 (by decide))
  obtain ⟨s13, t13, v13⟩ := hR.cell (v := u32v shut.union.c) (hD.shut 13 (by decide))
  obtain ⟨s14, t14, v14⟩ := hR.cell (v := u32v shut.union.d) (hD.shut 14 (by decide))
  simp only [Nat.reduceAdd] at s0 t0 v0 s1 t1 v1 s2 t2 v2 s3 t3 v3 s4 t4 v4 s5 t5 v5 s6 t6 v6 s7 t7 v7 s8 t8 v8 s9 t9 v9 s10 t10 v10 s11 t11 v11 s12 t12 v12 s13 t13 v13 s14 t14 v14
  have jp : Old p w := ⟨hR.lt⟩
  have hbare : ∀ W, Calls Try.prog 44 #[.agg #[iv 3, iv (i : Int), iv life, iv round, iv tag, iv of, iv dur, u32v ha, u32v hb, u32v hc, u32v hd, u32v ua, u32v ub, u32v uc, u32v ud]] W (Gr (.bool true) W) := fun W => by
    have := bare_any 3 i life round tag of dur ha hb hc hd ua ub uc ud hfit.1 hfit.2.1 W
    rwa [decide_eq_true hbr] at this
  have x1 : decide ((i : Int) < 0) = false := decide_eq_false (by omega)
  have x2 : decide (n ≤ i) = false := decide_eq_false (by omega)
  have x3 : decide (life < 1) = false := decide_eq_false (by omega)
  have x4 : decide (1073741824 < life) = false := decide_eq_false (by omega)
  have hstep := fun hg => step_yes (n := n) (f := f) (s := ⟨nodes, false, shut, last⟩) (e := (⟨3, (i : Int), life, round, tag, of, dur, ⟨ha, hb, hc, hd⟩, ⟨ua, ub, uc, ud⟩⟩ : Ev)) (x := ⟨true, life, asked, xtag, opn⟩) hfit hbr rfl hx ⟨(fun h => by cases h), .inr (by show (3 : Int) ≠ 4; decide)⟩ (.inr ⟨rfl, rfl⟩) hg
  have hnost := fun (h : ¬ Au.good n f ⟨nodes, false, shut, last⟩ ⟨true, life, asked, xtag, opn⟩ (⟨3, (i : Int), life, round, tag, of, dur, ⟨ha, hb, hc, hd⟩, ⟨ua, ub, uc, ud⟩⟩ : Ev)) => step_no (n := n) (f := f) (s := ⟨nodes, false, shut, last⟩) (e := (⟨3, (i : Int), life, round, tag, of, dur, ⟨ha, hb, hc, hd⟩, ⟨ua, ub, uc, ud⟩⟩ : Ev)) (x := ⟨true, life, asked, xtag, opn⟩) rfl hx (fun (g : _ ∧ _ ∧ _) => h g.2.2)
  have y6 : ((life : Int) != life) = false := by simp
  have hgd : Au.good n f ⟨nodes, false, shut, last⟩ ⟨true, life, asked, xtag, opn⟩ (⟨3, (i : Int), life, round, tag, of, dur, ⟨ha, hb, hc, hd⟩, ⟨ua, ub, uc, ud⟩⟩ : Ev) ↔ (round = opn ∧ St.within ⟨ha, hb, hc, hd⟩ n = true ∧ ((St.ids ⟨ha, hb, hc, hd⟩).length : Int) = (n : Int) - f ∧ St.has ⟨ha, hb, hc, hd⟩ i = true ∧ St.within ⟨ua, ub, uc, ud⟩ n = true ∧ St.sub ⟨ha, hb, hc, hd⟩ ⟨ua, ub, uc, ud⟩ = true) := by
    unfold Au.good
    constructor
    · rintro ⟨_, _, h3, h4, _⟩
      exact h3 rfl
    · intro h
      refine ⟨?_, ?_, ?_, ?_, ?_⟩ <;> first | exact (fun _ => h) | (intro h'; cases h')
  replace hstep := fun (h : round = opn ∧ St.within ⟨ha, hb, hc, hd⟩ n = true ∧ ((St.ids ⟨ha, hb, hc, hd⟩).length : Int) = (n : Int) - f ∧ St.has ⟨ha, hb, hc, hd⟩ i = true ∧ St.within ⟨ua, ub, uc, ud⟩ n = true ∧ St.sub ⟨ha, hb, hc, hd⟩ ⟨ua, ub, uc, ud⟩ = true) => hstep (hgd.2 h)
  replace hnost := fun (h : ¬ (round = opn ∧ St.within ⟨ha, hb, hc, hd⟩ n = true ∧ ((St.ids ⟨ha, hb, hc, hd⟩).length : Int) = (n : Int) - f ∧ St.has ⟨ha, hb, hc, hd⟩ i = true ∧ St.within ⟨ua, ub, uc, ud⟩ n = true ∧ St.sub ⟨ha, hb, hc, hd⟩ ⟨ua, ub, uc, ud⟩ = true)) => hnost (fun g => h (hgd.1 g))
  clear hgd
  have hw1 : ∀ W, Calls Try.prog 45 #[.agg #[u32v ha, u32v hb, u32v hc, u32v hd], iv n] W (Gr (.bool (St.within ⟨ha, hb, hc, hd⟩ n)) W) := fun W => withinR_any ⟨ha, hb, hc, hd⟩ he.1 n W
  have hw2 : ∀ W, Calls Try.prog 45 #[.agg #[u32v ua, u32v ub, u32v uc, u32v ud], iv n] W (Gr (.bool (St.within ⟨ua, ub, uc, ud⟩ n)) W) := fun W => withinR_any ⟨ua, ub, uc, ud⟩ he.2 n W
  have hk : ∀ W, Calls Try.prog 46 #[.agg #[u32v ha, u32v hb, u32v hc, u32v hd]] W (Gr (iv (St.ids ⟨ha, hb, hc, hd⟩).length) W) := fun W => countR_any ⟨ha, hb, hc, hd⟩ he.1 W
  have hh : ∀ W, Calls Try.prog 47 #[.agg #[u32v ha, u32v hb, u32v hc, u32v hd], iv (i : Int)] W (Gr (.bool (St.has ⟨ha, hb, hc, hd⟩ i)) W) := fun W => hasR_any ⟨ha, hb, hc, hd⟩ he.1 i W
  have hs : ∀ W, Calls Try.prog 48 #[.agg #[u32v ha, u32v hb, u32v hc, u32v hd], .agg #[u32v ua, u32v ub, u32v uc, u32v ud]] W (Gr (.bool (St.sub ⟨ha, hb, hc, hd⟩ ⟨ua, ub, uc, ud⟩)) W) := fun W => subsetR_any ⟨ha, hb, hc, hd⟩ ⟨ua, ub, uc, ud⟩ he.1 he.2 W
  have hkl : (St.ids ⟨ha, hb, hc, hd⟩).length ≤ 100 := by unfold St.ids; exact Nat.le_trans (List.length_filter_le _ _) (by simp)
  generalize St.within ⟨ha, hb, hc, hd⟩ n = b1 at *
  generalize St.within ⟨ua, ub, uc, ud⟩ n = b2 at *
  generalize (St.ids ⟨ha, hb, hc, hd⟩).length = k1 at *
  generalize St.has ⟨ha, hb, hc, hd⟩ i = b3 at *
  generalize St.sub ⟨ha, hb, hc, hd⟩ ⟨ua, ub, uc, ud⟩ = b4 at *
  obtain ⟨la, hla, _⟩ := hD.last
  obtain ⟨cl, fl, kl⟩ := hR.cell hla
  have HST := Lib.hid hstep
  have HNS := Lib.hid hnost
  generalize Au.step n f ⟨nodes, false, shut, last⟩ (⟨3, (i : Int), life, round, tag, of, dur, ⟨ha, hb, hc, hd⟩, ⟨ua, ub, uc, ud⟩⟩ : Ev) = r at *
  clear hfit hstep hnost
  have HE := Lib.hid he
  clear he
  have HR := Lib.hid hR
  have HD := Lib.hid hD
  have HX := Lib.hid hx
  clear hR hD hx hbr hlen hil
  by_cases z0 : ¬ round = opn
  case pos => as_aux_lemma =>
    have HNO : Hid (r = none) := Lib.hid (HNS.out (by rintro ⟨h1, h2, h3, h4, h5, h6⟩; first | omega | contradiction | simp_all))
    have wz0 : (round != opn) = true := by rw [bne_iff_ne]; exact z0
    clear z0
    go_enter Try.func39, Try.ntmps39
    go_wp2
    refine wp_region_grows (by kernel_rfl) (by kernel_rfl) ?_
    repeat (go_big_quiet_step ((go_at_call 44; exact grows_of (hbare _))))
    refine wpQuiet_nil ?_
    rintro _ ⟨gg, rfl⟩
    go_wp2
    refine wp_region_grows (by kernel_rfl) (by kernel_rfl) ?_
    repeat (go_big_quiet_step ((fail)))
    refine wpQuiet_nil ?_
    rintro _ ⟨gg, rfl⟩
    go_wp2
    refine wp_region_grows (by kernel_rfl) (by kernel_rfl) ?_
    repeat (go_big_quiet_step ((fail)))
    refine wpQuiet_nil ?_
    rintro _ ⟨gg, rfl⟩
    go_wp2
    refine wp_region_grows (by kernel_rfl) (by kernel_rfl) ?_
    repeat (go_big_quiet_step ((fail)))
    refine wpQuiet_nil ?_
    rintro _ ⟨gg, rfl⟩
    go_wp2
    refine wp_region_grows (by kernel_rfl) (by kernel_rfl) ?_
    repeat (go_big_quiet_step (((first | (go_at_call_of 45 (Value.agg #[u32v ha, u32v hb, u32v hc, u32v hd]); exact grows_of (hw1 _)) | (go_at_call_of 45 (Value.agg #[u32v ua, u32v ub, u32v uc, u32v ud]); exact grows_of (hw2 _)) | (go_at_call 46; exact grows_of (hk _)) | (go_at_call 47; exact grows_of (hh _)) | (go_at_call 48; exact grows_of (hs _)) | (go_at_call 44; exact grows_of (hbare _))))))
    refine wpQuiet_nil ?_
    rintro _ ⟨gg, rfl⟩
    go_wp2
    go_ret
    exact ⟨(by repeat (with_reducible first | exact Chg.refl _ _ | refine chg_m ?_ _ | refine chg_g ?_ _ | refine chg_alloc ?_ _ | refine chg_drew ?_ | refine chg_drewN ?_ _ | refine chg_set ?_ _ _ _)), .inl ⟨HNO.out, rfl⟩⟩
  have wz0 : (round != opn) = false := by rw [bne_eq_false_iff_eq]; exact Decidable.not_not.1 z0
  by_cases z1 : b1 = false
  case pos => as_aux_lemma =>
    have HNO : Hid (r = none) := Lib.hid (HNS.out (by rintro ⟨h1, h2, h3, h4, h5, h6⟩; (rw [h2] at z1; cases z1)))
    subst z1
    go_enter Try.func39, Try.ntmps39
    go_wp2
    refine wp_region_grows (by kernel_rfl) (by kernel_rfl) ?_
    repeat (go_big_quiet_step ((go_at_call 44; exact grows_of (hbare _))))
    refine wpQuiet_nil ?_
    rintro _ ⟨gg, rfl⟩
    go_wp2
    refine wp_region_grows (by kernel_rfl) (by kernel_rfl) ?_
    repeat (go_big_quiet_step ((fail)))
    refine wpQuiet_nil ?_
    rintro _ ⟨gg, rfl⟩
    go_wp2
    refine wp_region_grows (by kernel_rfl) (by kernel_rfl) ?_
    repeat (go_big_quiet_step ((fail)))
    refine wpQuiet_nil ?_
    rintro _ ⟨gg, rfl⟩
    go_wp2
    refine wp_region_grows (by kernel_rfl) (by kernel_rfl) ?_
    repeat (go_big_quiet_step ((fail)))
    refine wpQuiet_nil ?_
    rintro _ ⟨gg, rfl⟩
    go_wp2
    refine wp_region_grows (by kernel_rfl) (by kernel_rfl) ?_
    repeat (go_big_quiet_step (((first | (go_at_call_of 45 (Value.agg #[u32v ha, u32v hb, u32v hc, u32v hd]); exact grows_of (hw1 _)) | (go_at_call_of 45 (Value.agg #[u32v ua, u32v ub, u32v uc, u32v ud]); exact grows_of (hw2 _)) | (go_at_call 46; exact grows_of (hk _)) | (go_at_call 47; exact grows_of (hh _)) | (go_at_call 48; exact grows_of (hs _)) | (go_at_call 44; exact grows_of (hbare _))))))
    refine wpQuiet_nil ?_
    rintro _ ⟨gg, rfl⟩
    go_wp2
    go_ret
    exact ⟨(by repeat (with_reducible first | exact Chg.refl _ _ | refine chg_m ?_ _ | refine chg_g ?_ _ | refine chg_alloc ?_ _ | refine chg_drew ?_ | refine chg_drewN ?_ _ | refine chg_set ?_ _ _ _)), .inl ⟨HNO.out, rfl⟩⟩
  obtain rfl : b1 = true := by simpa using z1
  by_cases z2 : ¬ (k1 : Int) = ((n : Int) - f)
  case pos => as_aux_lemma =>
    have HNO : Hid (r = none) := Lib.hid (HNS.out (by rintro ⟨h1, h2, h3, h4, h5, h6⟩; first | omega | contradiction | simp_all))
    have wz2 : ((k1 : Int) != ((n : Int) - f)) = true := by rw [bne_iff_ne]; exact z2
    clear z2
    go_enter Try.func39, Try.ntmps39
    go_wp2
    refine wp_region_grows (by kernel_rfl) (by kernel_rfl) ?_
    repeat (go_big_quiet_step ((go_at_call 44; exact grows_of (hbare _))))
    refine wpQuiet_nil ?_
    rintro _ ⟨gg, rfl⟩
    go_wp2
    refine wp_region_grows (by kernel_rfl) (by kernel_rfl) ?_
    repeat (go_big_quiet_step ((fail)))
    refine wpQuiet_nil ?_
    rintro _ ⟨gg, rfl⟩
    go_wp2
    refine wp_region_grows (by kernel_rfl) (by kernel_rfl) ?_
    repeat (go_big_quiet_step ((fail)))
    refine wpQuiet_nil ?_
    rintro _ ⟨gg, rfl⟩
    go_wp2
    refine wp_region_grows (by kernel_rfl) (by kernel_rfl) ?_
    repeat (go_big_quiet_step ((fail)))
    refine wpQuiet_nil ?_
    rintro _ ⟨gg, rfl⟩
    go_wp2
    refine wp_region_grows (by kernel_rfl) (by kernel_rfl) ?_
    repeat (go_big_quiet_step (((first | (go_at_call_of 45 (Value.agg #[u32v ha, u32v hb, u32v hc, u32v hd]); exact grows_of (hw1 _)) | (go_at_call_of 45 (Value.agg #[u32v ua, u32v ub, u32v uc, u32v ud]); exact grows_of (hw2 _)) | (go_at_call 46; exact grows_of (hk _)) | (go_at_call 47; exact grows_of (hh _)) | (go_at_call 48; exact grows_of (hs _)) | (go_at_call 44; exact grows_of (hbare _))))))
    refine wpQuiet_nil ?_
    rintro _ ⟨gg, rfl⟩
    go_wp2
    go_ret
    exact ⟨(by repeat (with_reducible first | exact Chg.refl _ _ | refine chg_m ?_ _ | refine chg_g ?_ _ | refine chg_alloc ?_ _ | refine chg_drew ?_ | refine chg_drewN ?_ _ | refine chg_set ?_ _ _ _)), .inl ⟨HNO.out, rfl⟩⟩
  have wz2 : ((k1 : Int) != ((n : Int) - f)) = false := by rw [bne_eq_false_iff_eq]; exact Decidable.not_not.1 z2
  by_cases z3 : b3 = false
  case pos => as_aux_lemma =>
    have HNO : Hid (r = none) := Lib.hid (HNS.out (by rintro ⟨h1, h2, h3, h4, h5, h6⟩; (rw [h4] at z3; cases z3)))
    subst z3
    go_enter Try.func39, Try.ntmps39
    go_wp2
    refine wp_region_grows (by kernel_rfl) (by kernel_rfl) ?_
    repeat (go_big_quiet_step ((go_at_call 44; exact grows_of (hbare _))))
    refine wpQuiet_nil ?_
    rintro _ ⟨gg, rfl⟩
    go_wp2
    refine wp_region_grows (by kernel_rfl) (by kernel_rfl) ?_
    repeat (go_big_quiet_step ((fail)))
    refine wpQuiet_nil ?_
    rintro _ ⟨gg, rfl⟩
    go_wp2
    refine wp_region_grows (by kernel_rfl) (by kernel_rfl) ?_
    repeat (go_big_quiet_step ((fail)))
    refine wpQuiet_nil ?_
    rintro _ ⟨gg, rfl⟩
    go_wp2
    refine wp_region_grows (by kernel_rfl) (by kernel_rfl) ?_
    repeat (go_big_quiet_step ((fail)))
    refine wpQuiet_nil ?_
    rintro _ ⟨gg, rfl⟩
    go_wp2
    refine wp_region_grows (by kernel_rfl) (by kernel_rfl) ?_
    repeat (go_big_quiet_step (((first | (go_at_call_of 45 (Value.agg #[u32v ha, u32v hb, u32v hc, u32v hd]); exact grows_of (hw1 _)) | (go_at_call_of 45 (Value.agg #[u32v ua, u32v ub, u32v uc, u32v ud]); exact grows_of (hw2 _)) | (go_at_call 46; exact grows_of (hk _)) | (go_at_call 47; exact grows_of (hh _)) | (go_at_call 48; exact grows_of (hs _)) | (go_at_call 44; exact grows_of (hbare _))))))
    refine wpQuiet_nil ?_
    rintro _ ⟨gg, rfl⟩
    go_wp2
    go_ret
    exact ⟨(by repeat (with_reducible first | exact Chg.refl _ _ | refine chg_m ?_ _ | refine chg_g ?_ _ | refine chg_alloc ?_ _ | refine chg_drew ?_ | refine chg_drewN ?_ _ | refine chg_set ?_ _ _ _)), .inl ⟨HNO.out, rfl⟩⟩
  obtain rfl : b3 = true := by simpa using z3
  by_cases z4 : b2 = false
  case pos => as_aux_lemma =>
    have HNO : Hid (r = none) := Lib.hid (HNS.out (by rintro ⟨h1, h2, h3, h4, h5, h6⟩; (rw [h5] at z4; cases z4)))
    subst z4
    go_enter Try.func39, Try.ntmps39
    go_wp2
    refine wp_region_grows (by kernel_rfl) (by kernel_rfl) ?_
    repeat (go_big_quiet_step ((go_at_call 44; exact grows_of (hbare _))))
    refine wpQuiet_nil ?_
    rintro _ ⟨gg, rfl⟩
    go_wp2
    refine wp_region_grows (by kernel_rfl) (by kernel_rfl) ?_
    repeat (go_big_quiet_step ((fail)))
    refine wpQuiet_nil ?_
    rintro _ ⟨gg, rfl⟩
    go_wp2
    refine wp_region_grows (by kernel_rfl) (by kernel_rfl) ?_
    repeat (go_big_quiet_step ((fail)))
    refine wpQuiet_nil ?_
    rintro _ ⟨gg, rfl⟩
    go_wp2
    refine wp_region_grows (by kernel_rfl) (by kernel_rfl) ?_
    repeat (go_big_quiet_step ((fail)))
    refine wpQuiet_nil ?_
    rintro _ ⟨gg, rfl⟩
    go_wp2
    refine wp_region_grows (by kernel_rfl) (by kernel_rfl) ?_
    repeat (go_big_quiet_step (((first | (go_at_call_of 45 (Value.agg #[u32v ha, u32v hb, u32v hc, u32v hd]); exact grows_of (hw1 _)) | (go_at_call_of 45 (Value.agg #[u32v ua, u32v ub, u32v uc, u32v ud]); exact grows_of (hw2 _)) | (go_at_call 46; exact grows_of (hk _)) | (go_at_call 47; exact grows_of (hh _)) | (go_at_call 48; exact grows_of (hs _)) | (go_at_call 44; exact grows_of (hbare _))))))
    refine wpQuiet_nil ?_
    rintro _ ⟨gg, rfl⟩
    go_wp2
    go_ret
    exact ⟨(by repeat (with_reducible first | exact Chg.refl _ _ | refine chg_m ?_ _ | refine chg_g ?_ _ | refine chg_alloc ?_ _ | refine chg_drew ?_ | refine chg_drewN ?_ _ | refine chg_set ?_ _ _ _)), .inl ⟨HNO.out, rfl⟩⟩
  obtain rfl : b2 = true := by simpa using z4
  by_cases z5 : b4 = false
  case pos => as_aux_lemma =>
    have HNO : Hid (r = none) := Lib.hid (HNS.out (by rintro ⟨h1, h2, h3, h4, h5, h6⟩; (rw [h6] at z5; cases z5)))
    subst z5
    go_enter Try.func39, Try.ntmps39
    go_wp2
    refine wp_region_grows (by kernel_rfl) (by kernel_rfl) ?_
    repeat (go_big_quiet_step ((go_at_call 44; exact grows_of (hbare _))))
    refine wpQuiet_nil ?_
    rintro _ ⟨gg, rfl⟩
    go_wp2
    refine wp_region_grows (by kernel_rfl) (by kernel_rfl) ?_
    repeat (go_big_quiet_step ((fail)))
    refine wpQuiet_nil ?_
    rintro _ ⟨gg, rfl⟩
    go_wp2
    refine wp_region_grows (by kernel_rfl) (by kernel_rfl) ?_
    repeat (go_big_quiet_step ((fail)))
    refine wpQuiet_nil ?_
    rintro _ ⟨gg, rfl⟩
    go_wp2
    refine wp_region_grows (by kernel_rfl) (by kernel_rfl) ?_
    repeat (go_big_quiet_step ((fail)))
    refine wpQuiet_nil ?_
    rintro _ ⟨gg, rfl⟩
    go_wp2
    refine wp_region_grows (by kernel_rfl) (by kernel_rfl) ?_
    repeat (go_big_quiet_step (((first | (go_at_call_of 45 (Value.agg #[u32v ha, u32v hb, u32v hc, u32v hd]); exact grows_of (hw1 _)) | (go_at_call_of 45 (Value.agg #[u32v ua, u32v ub, u32v uc, u32v ud]); exact grows_of (hw2 _)) | (go_at_call 46; exact grows_of (hk _)) | (go_at_call 47; exact grows_of (hh _)) | (go_at_call 48; exact grows_of (hs _)) | (go_at_call 44; exact grows_of (hbare _))))))
    refine wpQuiet_nil ?_
    rintro _ ⟨gg, rfl⟩
    go_wp2
    go_ret
    exact ⟨(by repeat (with_reducible first | exact Chg.refl _ _ | refine chg_m ?_ _ | refine chg_g ?_ _ | refine chg_alloc ?_ _ | refine chg_drew ?_ | refine chg_drewN ?_ _ | refine chg_set ?_ _ _ _)), .inl ⟨HNO.out, rfl⟩⟩
  obtain rfl : b4 = true := by simpa using z5
  have HYES := Lib.hid (HST.out (by exact ⟨Decidable.not_not.1 z0, rfl, Decidable.not_not.1 z2, rfl, rfl, rfl⟩))
  clear z0
  clear z1
  clear z2
  clear z3
  clear z4
  clear z5
  go_enter Try.func39, Try.ntmps39
  go_wp2
  refine wp_region_grows (by kernel_rfl) (by kernel_rfl) ?_
  repeat (go_big_quiet_step ((go_at_call 44; exact grows_of (hbare _))))
  refine wpQuiet_nil ?_
  rintro _ ⟨gg, rfl⟩
  go_wp2
  refine wp_region_grows (by kernel_rfl) (by kernel_rfl) ?_
  repeat (go_big_quiet_step ((fail)))
  refine wpQuiet_nil ?_
  rintro _ ⟨gg, rfl⟩
  go_wp2
  refine wp_region_grows (by kernel_rfl) (by kernel_rfl) ?_
  repeat (go_big_quiet_step ((fail)))
  refine wpQuiet_nil ?_
  rintro _ ⟨gg, rfl⟩
  go_wp2
  refine wp_region_grows (by kernel_rfl) (by kernel_rfl) ?_
  repeat (go_big_quiet_step ((fail)))
  refine wpQuiet_nil ?_
  rintro _ ⟨gg, rfl⟩
  go_wp2
  refine wp_region_grows (by kernel_rfl) (by kernel_rfl) ?_
  repeat (go_big_quiet_step (((first | (go_at_call_of 45 (Value.agg #[u32v ha, u32v hb, u32v hc, u32v hd]); exact grows_of (hw1 _)) | (go_at_call_of 45 (Value.agg #[u32v ua, u32v ub, u32v uc, u32v ud]); exact grows_of (hw2 _)) | (go_at_call 46; exact grows_of (hk _)) | (go_at_call 47; exact grows_of (hh _)) | (go_at_call 48; exact grows_of (hs _)) | (go_at_call 44; exact grows_of (hbare _))))))
  refine wpQuiet_nil ?_
  rintro _ ⟨gg, rfl⟩
  go_wp2
  go_region
  go_wp2
  go_ret
  refine ⟨(by repeat (with_reducible first | exact Chg.refl _ _ | refine chg_m ?_ _ | refine chg_g ?_ _ | refine chg_alloc ?_ _ | refine chg_drew ?_ | refine chg_drewN ?_ _ | refine chg_set ?_ _ _ _)), .inr ⟨_, HYES.out, rfl, _, DeskRaw.drew (DeskRaw.set _ _ (DeskRaw.set _ _ (DeskRaw.set _ _ (DeskRaw.set _ _ (DeskRaw.set _ _ (DeskRaw.set _ _ (DeskRaw.set _ _ (DeskRaw.set _ _ (DeskRaw.set _ _ (DeskRaw.set _ _ (DeskRaw.set _ _ (DeskRaw.set _ _ (DeskRaw.set _ _ (DeskRaw.set _ _ (DeskRaw.set _ _ (DeskRaw.set _ _ (DeskRaw.set _ _ (HR.out.grow (by repeat (with_reducible first | exact Chg.refl _ _ | refine chg_m ?_ _ | refine chg_g ?_ _ | refine chg_alloc ?_ _ | refine chg_drew ?_ | refine chg_drewN ?_ _ | refine chg_set ?_ _ _ _)))))))))))))))))))), ?_⟩⟩
  have hsz := HD.out.size
  have HREP := Rep.close (cs' := (((((((((((((((((cs.setIfInBounds 602 (.bool true)).setIfInBounds 603 (iv 3)).setIfInBounds 604 (iv (i : Int))).setIfInBounds 605 (iv life)).setIfInBounds 606 (iv round)).setIfInBounds 607 (iv tag)).setIfInBounds 608 (iv of)).setIfInBounds 609 (iv dur)).setIfInBounds 610 (u32v ha)).setIfInBounds 611 (u32v hb)).setIfInBounds 612 (u32v hc)).setIfInBounds 613 (u32v hd)).setIfInBounds 614 (u32v ua)).setIfInBounds 615 (u32v ub)).setIfInBounds 616 (u32v uc)).setIfInBounds 617 (u32v ud)).setIfInBounds 618 (iv (-1)))) (e := (⟨3, (i : Int), life, round, tag, of, dur, ⟨ha, hb, hc, hd⟩, ⟨ua, ub, uc, ud⟩⟩ : Ev)) HD.out HE.out (by simp [hsz]) (by simp [Array.getElem?_setIfInBounds, hsz]) (fun k hk => by
    rcases (show k = 0 ∨ k = 1 ∨ k = 2 ∨ k = 3 ∨ k = 4 ∨ k = 5 ∨ k = 6 ∨ k = 7 ∨ k = 8 ∨ k = 9 ∨ k = 10 ∨ k = 11 ∨ k = 12 ∨ k = 13 ∨ k = 14 by omega) with rfl | rfl | rfl | rfl | rfl | rfl | rfl | rfl | rfl | rfl | rfl | rfl | rfl | rfl | rfl
    all_goals simp [Array.getElem?_setIfInBounds, hsz]) (by simp [Array.getElem?_setIfInBounds, hsz]) (fun m hm => by
    repeat rw [Array.getElem?_setIfInBounds_ne (by omega)])
  have hset : nodes.set i ⟨true, life, asked, xtag, opn⟩ = nodes := by
    obtain ⟨hl, hv⟩ := List.getElem?_eq_some_iff.1 HX.out
    rw [← hv, List.set_getElem_self]
  simpa [Nd.next, hset] using HREP
end Go.Proofs.Yteemkceceaabkaa
