/- The reference's bare: are the fields zero that the kind does not have? -/
import Derived.Test.YteemkceceaabkaaAw
import Derived.Deep.RegionLaw
namespace Go.Proofs.Yteemkceceaabkaa
open Go.RowKit Go.Ear
set_option maxHeartbeats 4000000
set_option maxRecDepth 100000
set_option linter.unusedSimpArgs false
theorem eqSet0 (W : World) (ha hb hc hd : Nat) : (Op.equalIn 10000 74 (.agg #[.int .u32 0, .int .u32 0, .int .u32 0, .int .u32 0]) (.agg #[u32v ha, u32v hb, u32v hc, u32v hd])).run Try.prog W = .ok (decide ((⟨ha, hb, hc, hd⟩ : St) = .zero)) W := by
  have := eqSet W 0 0 0 0 ha hb hc hd
  refine Eq.trans this ?_
  congr 1
  rw [decide_eq_decide, St.ext_iff']
  simp only
  constructor <;> (rintro ⟨h1, h2, h3, h4⟩; exact ⟨h1.symm, h2.symm, h3.symm, h4.symm⟩)
theorem eqSetS (W : World) (ha hb hc hd : Nat) : (Op.equalIn 10000 74 (.agg #[u32v ha, u32v hb, u32v hc, u32v hd]) (.agg #[u32v ha, u32v hb, u32v hc, u32v hd])).run Try.prog W = .ok true W := by
  rw [eqSet]
  simp

theorem bare_1 (node life round tag of dur : Int) (ha hb hc hd ua ub uc ud : Nat) (w : World) : Calls Try.prog 44 #[.agg #[iv 1, iv node, iv life, iv round, iv tag, iv of, iv dur, u32v ha, u32v hb, u32v hc, u32v hd, u32v ua, u32v ub, u32v uc, u32v ud]] w (Gr (.bool (decide (Ev.bare ⟨1, node, life, round, tag, of, dur, ⟨ha, hb, hc, hd⟩, ⟨ua, ub, uc, ud⟩⟩))) w) := by
  have hss := fun W => eqSetS W ha hb hc hd
  have hsu := fun W => eqSetS W ua ub uc ud
  have hgs := guardSet
  by_cases q0 : of = 0
  case neg =>
    have hr : decide (Ev.bare ⟨1, node, life, round, tag, of, dur, ⟨ha, hb, hc, hd⟩, ⟨ua, ub, uc, ud⟩⟩) = false := decide_eq_false (by unfold Ev.bare; rintro ⟨r1, r2, r3, r4, r5, r6⟩; exact q0 (r3 (by show (1 : Int) ≠ 4; decide)))
    have e0 : ((0 : Int) == of) = false := by rw [beq_eq_false_iff_ne]; exact fun h => q0 h.symm
    rw [hr]
    clear hr q0
    go_enter Try.func44, Try.ntmps44
    go_wp2
    go_region
    go_wp2
    go_ret
    exact gr_mk rfl (by repeat (with_reducible first | exact Chg.refl _ _ | refine chg_m ?_ _ | refine chg_g ?_ _ | refine chg_alloc ?_ _ | refine chg_drew ?_ | refine chg_drewN ?_ _ | refine chg_set ?_ _ _ _))
  have e0 : ((0 : Int) == of) = true := by rw [beq_iff_eq]; exact q0.symm
  have Q0 := Lib.hid q0
  clear q0
  by_cases q1 : dur = 0
  case neg =>
    have hr : decide (Ev.bare ⟨1, node, life, round, tag, of, dur, ⟨ha, hb, hc, hd⟩, ⟨ua, ub, uc, ud⟩⟩) = false := decide_eq_false (by unfold Ev.bare; rintro ⟨r1, r2, r3, r4, r5, r6⟩; exact q1 (r4 (by show (1 : Int) ≠ 5; decide)))
    have e1 : ((0 : Int) == dur) = false := by rw [beq_eq_false_iff_ne]; exact fun h => q1 h.symm
    rw [hr]
    clear hr q1
    go_enter Try.func44, Try.ntmps44
    go_wp2
    go_region
    go_wp2
    go_ret
    exact gr_mk rfl (by repeat (with_reducible first | exact Chg.refl _ _ | refine chg_m ?_ _ | refine chg_g ?_ _ | refine chg_alloc ?_ _ | refine chg_drew ?_ | refine chg_drewN ?_ _ | refine chg_set ?_ _ _ _))
  have e1 : ((0 : Int) == dur) = true := by rw [beq_iff_eq]; exact q1.symm
  have Q1 := Lib.hid q1
  clear q1
  by_cases q2 : (⟨ha, hb, hc, hd⟩ : St) = .zero
  case neg =>
    have hr : decide (Ev.bare ⟨1, node, life, round, tag, of, dur, ⟨ha, hb, hc, hd⟩, ⟨ua, ub, uc, ud⟩⟩) = false := decide_eq_false (by unfold Ev.bare; rintro ⟨r1, r2, r3, r4, r5, r6⟩; exact q2 (r5 (by show (1 : Int) ≠ 3; decide)))
    have e2 : ∀ W, (Op.equalIn 10000 74 (.agg #[.int .u32 0, .int .u32 0, .int .u32 0, .int .u32 0]) (.agg #[u32v ha, u32v hb, u32v hc, u32v hd])).run Try.prog W = .ok false W := fun W => (eqSet0 W _ _ _ _).trans (by rw [decide_eq_false q2])
    rw [hr]
    clear hr q2
    go_enter Try.func44, Try.ntmps44
    go_wp2
    go_region
    go_wp2
    go_ret
    exact gr_mk rfl (by repeat (with_reducible first | exact Chg.refl _ _ | refine chg_m ?_ _ | refine chg_g ?_ _ | refine chg_alloc ?_ _ | refine chg_drew ?_ | refine chg_drewN ?_ _ | refine chg_set ?_ _ _ _))
  have e2 : ∀ W, (Op.equalIn 10000 74 (.agg #[.int .u32 0, .int .u32 0, .int .u32 0, .int .u32 0]) (.agg #[u32v ha, u32v hb, u32v hc, u32v hd])).run Try.prog W = .ok true W := fun W => (eqSet0 W _ _ _ _).trans (by rw [decide_eq_true q2])
  have Q2 := Lib.hid q2
  clear q2
  by_cases q3 : (⟨ua, ub, uc, ud⟩ : St) = .zero
  case neg =>
    have hr : decide (Ev.bare ⟨1, node, life, round, tag, of, dur, ⟨ha, hb, hc, hd⟩, ⟨ua, ub, uc, ud⟩⟩) = false := decide_eq_false (by unfold Ev.bare; rintro ⟨r1, r2, r3, r4, r5, r6⟩; exact q3 (r6 (by show (1 : Int) ≠ 3; decide)))
    have e3 : ∀ W, (Op.equalIn 10000 74 (.agg #[.int .u32 0, .int .u32 0, .int .u32 0, .int .u32 0]) (.agg #[u32v ua, u32v ub, u32v uc, u32v ud])).run Try.prog W = .ok false W := fun W => (eqSet0 W _ _ _ _).trans (by rw [decide_eq_false q3])
    rw [hr]
    clear hr q3
    go_enter Try.func44, Try.ntmps44
    go_wp2
    go_region
    go_wp2
    go_ret
    exact gr_mk rfl (by repeat (with_reducible first | exact Chg.refl _ _ | refine chg_m ?_ _ | refine chg_g ?_ _ | refine chg_alloc ?_ _ | refine chg_drew ?_ | refine chg_drewN ?_ _ | refine chg_set ?_ _ _ _))
  have e3 : ∀ W, (Op.equalIn 10000 74 (.agg #[.int .u32 0, .int .u32 0, .int .u32 0, .int .u32 0]) (.agg #[u32v ua, u32v ub, u32v uc, u32v ud])).run Try.prog W = .ok true W := fun W => (eqSet0 W _ _ _ _).trans (by rw [decide_eq_true q3])
  have Q3 := Lib.hid q3
  clear q3
  have hr : decide (Ev.bare ⟨1, node, life, round, tag, of, dur, ⟨ha, hb, hc, hd⟩, ⟨ua, ub, uc, ud⟩⟩) = true := decide_eq_true ⟨fun h1 h2 h3 h4 => absurd rfl (by first | exact h1 | exact h2 | exact h3 | exact h4), fun h1 h2 h3 => absurd rfl (by first | exact h1 | exact h2 | exact h3), fun _ => Q0.out, fun _ => Q1.out, fun _ => Q2.out, fun _ => Q3.out⟩
  rw [hr]
  clear hr
  go_enter Try.func44, Try.ntmps44
  go_wp2
  go_region
  go_wp2
  go_ret
  exact gr_mk rfl (by repeat (with_reducible first | exact Chg.refl _ _ | refine chg_m ?_ _ | refine chg_g ?_ _ | refine chg_alloc ?_ _ | refine chg_drew ?_ | refine chg_drewN ?_ _ | refine chg_set ?_ _ _ _))
end Go.Proofs.Yteemkceceaabkaa
/- The reference's bare at kind 2. -/
namespace Go.Proofs.Yteemkceceaabkaa
open Go.RowKit Go.Ear
set_option maxHeartbeats 4000000
set_option maxRecDepth 100000
set_option linter.unusedSimpArgs false

theorem bare_2 (node life round tag of dur : Int) (ha hb hc hd ua ub uc ud : Nat) (w : World) : Calls Try.prog 44 #[.agg #[iv 2, iv node, iv life, iv round, iv tag, iv of, iv dur, u32v ha, u32v hb, u32v hc, u32v hd, u32v ua, u32v ub, u32v uc, u32v ud]] w (Gr (.bool (decide (Ev.bare ⟨2, node, life, round, tag, of, dur, ⟨ha, hb, hc, hd⟩, ⟨ua, ub, uc, ud⟩⟩))) w) := by
  have hss := fun W => eqSetS W ha hb hc hd
  have hsu := fun W => eqSetS W ua ub uc ud
  have hgs := guardSet
  by_cases q0 : tag = 0
  case neg =>
    have hr : decide (Ev.bare ⟨2, node, life, round, tag, of, dur, ⟨ha, hb, hc, hd⟩, ⟨ua, ub, uc, ud⟩⟩) = false := decide_eq_false (by unfold Ev.bare; rintro ⟨r1, r2, r3, r4, r5, r6⟩; exact q0 (r2 (by show (2 : Int) ≠ 1; decide) (by show (2 : Int) ≠ 4; decide) (by show (2 : Int) ≠ 5; decide)))
    have e0 : ((0 : Int) == tag) = false := by rw [beq_eq_false_iff_ne]; exact fun h => q0 h.symm
    rw [hr]
    clear hr q0
    go_enter Try.func44, Try.ntmps44
    go_wp2
    go_ret
    exact gr_mk rfl (by repeat (with_reducible first | exact Chg.refl _ _ | refine chg_m ?_ _ | refine chg_g ?_ _ | refine chg_alloc ?_ _ | refine chg_drew ?_ | refine chg_drewN ?_ _ | refine chg_set ?_ _ _ _))
  have e0 : ((0 : Int) == tag) = true := by rw [beq_iff_eq]; exact q0.symm
  have Q0 := Lib.hid q0
  clear q0
  by_cases q1 : of = 0
  case neg =>
    have hr : decide (Ev.bare ⟨2, node, life, round, tag, of, dur, ⟨ha, hb, hc, hd⟩, ⟨ua, ub, uc, ud⟩⟩) = false := decide_eq_false (by unfold Ev.bare; rintro ⟨r1, r2, r3, r4, r5, r6⟩; exact q1 (r3 (by show (2 : Int) ≠ 4; decide)))
    have e1 : ((0 : Int) == of) = false := by rw [beq_eq_false_iff_ne]; exact fun h => q1 h.symm
    rw [hr]
    clear hr q1
    go_enter Try.func44, Try.ntmps44
    go_wp2
    go_ret
    exact gr_mk rfl (by repeat (with_reducible first | exact Chg.refl _ _ | refine chg_m ?_ _ | refine chg_g ?_ _ | refine chg_alloc ?_ _ | refine chg_drew ?_ | refine chg_drewN ?_ _ | refine chg_set ?_ _ _ _))
  have e1 : ((0 : Int) == of) = true := by rw [beq_iff_eq]; exact q1.symm
  have Q1 := Lib.hid q1
  clear q1
  by_cases q2 : dur = 0
  case neg =>
    have hr : decide (Ev.bare ⟨2, node, life, round, tag, of, dur, ⟨ha, hb, hc, hd⟩, ⟨ua, ub, uc, ud⟩⟩) = false := decide_eq_false (by unfold Ev.bare; rintro ⟨r1, r2, r3, r4, r5, r6⟩; exact q2 (r4 (by show (2 : Int) ≠ 5; decide)))
    have e2 : ((0 : Int) == dur) = false := by rw [beq_eq_false_iff_ne]; exact fun h => q2 h.symm
    rw [hr]
    clear hr q2
    go_enter Try.func44, Try.ntmps44
    go_wp2
    go_ret
    exact gr_mk rfl (by repeat (with_reducible first | exact Chg.refl _ _ | refine chg_m ?_ _ | refine chg_g ?_ _ | refine chg_alloc ?_ _ | refine chg_drew ?_ | refine chg_drewN ?_ _ | refine chg_set ?_ _ _ _))
  have e2 : ((0 : Int) == dur) = true := by rw [beq_iff_eq]; exact q2.symm
  have Q2 := Lib.hid q2
  clear q2
  by_cases q3 : (⟨ha, hb, hc, hd⟩ : St) = .zero
  case neg =>
    have hr : decide (Ev.bare ⟨2, node, life, round, tag, of, dur, ⟨ha, hb, hc, hd⟩, ⟨ua, ub, uc, ud⟩⟩) = false := decide_eq_false (by unfold Ev.bare; rintro ⟨r1, r2, r3, r4, r5, r6⟩; exact q3 (r5 (by show (2 : Int) ≠ 3; decide)))
    have e3 : ∀ W, (Op.equalIn 10000 74 (.agg #[.int .u32 0, .int .u32 0, .int .u32 0, .int .u32 0]) (.agg #[u32v ha, u32v hb, u32v hc, u32v hd])).run Try.prog W = .ok false W := fun W => (eqSet0 W _ _ _ _).trans (by rw [decide_eq_false q3])
    rw [hr]
    clear hr q3
    go_enter Try.func44, Try.ntmps44
    go_wp2
    go_ret
    exact gr_mk rfl (by repeat (with_reducible first | exact Chg.refl _ _ | refine chg_m ?_ _ | refine chg_g ?_ _ | refine chg_alloc ?_ _ | refine chg_drew ?_ | refine chg_drewN ?_ _ | refine chg_set ?_ _ _ _))
  have e3 : ∀ W, (Op.equalIn 10000 74 (.agg #[.int .u32 0, .int .u32 0, .int .u32 0, .int .u32 0]) (.agg #[u32v ha, u32v hb, u32v hc, u32v hd])).run Try.prog W = .ok true W := fun W => (eqSet0 W _ _ _ _).trans (by rw [decide_eq_true q3])
  have Q3 := Lib.hid q3
  clear q3
  by_cases q4 : (⟨ua, ub, uc, ud⟩ : St) = .zero
  case neg =>
    have hr : decide (Ev.bare ⟨2, node, life, round, tag, of, dur, ⟨ha, hb, hc, hd⟩, ⟨ua, ub, uc, ud⟩⟩) = false := decide_eq_false (by unfold Ev.bare; rintro ⟨r1, r2, r3, r4, r5, r6⟩; exact q4 (r6 (by show (2 : Int) ≠ 3; decide)))
    have e4 : ∀ W, (Op.equalIn 10000 74 (.agg #[.int .u32 0, .int .u32 0, .int .u32 0, .int .u32 0]) (.agg #[u32v ua, u32v ub, u32v uc, u32v ud])).run Try.prog W = .ok false W := fun W => (eqSet0 W _ _ _ _).trans (by rw [decide_eq_false q4])
    rw [hr]
    clear hr q4
    go_enter Try.func44, Try.ntmps44
    go_wp2
    go_ret
    exact gr_mk rfl (by repeat (with_reducible first | exact Chg.refl _ _ | refine chg_m ?_ _ | refine chg_g ?_ _ | refine chg_alloc ?_ _ | refine chg_drew ?_ | refine chg_drewN ?_ _ | refine chg_set ?_ _ _ _))
  have e4 : ∀ W, (Op.equalIn 10000 74 (.agg #[.int .u32 0, .int .u32 0, .int .u32 0, .int .u32 0]) (.agg #[u32v ua, u32v ub, u32v uc, u32v ud])).run Try.prog W = .ok true W := fun W => (eqSet0 W _ _ _ _).trans (by rw [decide_eq_true q4])
  have Q4 := Lib.hid q4
  clear q4
  have hr : decide (Ev.bare ⟨2, node, life, round, tag, of, dur, ⟨ha, hb, hc, hd⟩, ⟨ua, ub, uc, ud⟩⟩) = true := decide_eq_true ⟨fun h1 h2 h3 h4 => absurd rfl (by first | exact h1 | exact h2 | exact h3 | exact h4), fun _ _ _ => Q0.out, fun _ => Q1.out, fun _ => Q2.out, fun _ => Q3.out, fun _ => Q4.out⟩
  rw [hr]
  clear hr
  go_enter Try.func44, Try.ntmps44
  go_wp2
  go_ret
  exact gr_mk rfl (by repeat (with_reducible first | exact Chg.refl _ _ | refine chg_m ?_ _ | refine chg_g ?_ _ | refine chg_alloc ?_ _ | refine chg_drew ?_ | refine chg_drewN ?_ _ | refine chg_set ?_ _ _ _))
end Go.Proofs.Yteemkceceaabkaa
/- The reference's bare at kind 3. -/
namespace Go.Proofs.Yteemkceceaabkaa
open Go.RowKit Go.Ear
set_option maxHeartbeats 4000000
set_option maxRecDepth 100000
set_option linter.unusedSimpArgs false

theorem bare_3 (node life round tag of dur : Int) (ha hb hc hd ua ub uc ud : Nat) (w : World) : Calls Try.prog 44 #[.agg #[iv 3, iv node, iv life, iv round, iv tag, iv of, iv dur, u32v ha, u32v hb, u32v hc, u32v hd, u32v ua, u32v ub, u32v uc, u32v ud]] w (Gr (.bool (decide (Ev.bare ⟨3, node, life, round, tag, of, dur, ⟨ha, hb, hc, hd⟩, ⟨ua, ub, uc, ud⟩⟩))) w) := by
  have hss := fun W => eqSetS W ha hb hc hd
  have hsu := fun W => eqSetS W ua ub uc ud
  have hgs := guardSet
  by_cases q0 : tag = 0
  case neg =>
    have hr : decide (Ev.bare ⟨3, node, life, round, tag, of, dur, ⟨ha, hb, hc, hd⟩, ⟨ua, ub, uc, ud⟩⟩) = false := decide_eq_false (by unfold Ev.bare; rintro ⟨r1, r2, r3, r4, r5, r6⟩; exact q0 (r2 (by show (3 : Int) ≠ 1; decide) (by show (3 : Int) ≠ 4; decide) (by show (3 : Int) ≠ 5; decide)))
    have e0 : ((0 : Int) == tag) = false := by rw [beq_eq_false_iff_ne]; exact fun h => q0 h.symm
    rw [hr]
    clear hr q0
    go_enter Try.func44, Try.ntmps44
    go_wp2
    go_region
    go_wp2
    go_ret
    exact gr_mk rfl (by repeat (with_reducible first | exact Chg.refl _ _ | refine chg_m ?_ _ | refine chg_g ?_ _ | refine chg_alloc ?_ _ | refine chg_drew ?_ | refine chg_drewN ?_ _ | refine chg_set ?_ _ _ _))
  have e0 : ((0 : Int) == tag) = true := by rw [beq_iff_eq]; exact q0.symm
  have Q0 := Lib.hid q0
  clear q0
  by_cases q1 : of = 0
  case neg =>
    have hr : decide (Ev.bare ⟨3, node, life, round, tag, of, dur, ⟨ha, hb, hc, hd⟩, ⟨ua, ub, uc, ud⟩⟩) = false := decide_eq_false (by unfold Ev.bare; rintro ⟨r1, r2, r3, r4, r5, r6⟩; exact q1 (r3 (by show (3 : Int) ≠ 4; decide)))
    have e1 : ((0 : Int) == of) = false := by rw [beq_eq_false_iff_ne]; exact fun h => q1 h.symm
    rw [hr]
    clear hr q1
    go_enter Try.func44, Try.ntmps44
    go_wp2
    go_region
    go_wp2
    go_ret
    exact gr_mk rfl (by repeat (with_reducible first | exact Chg.refl _ _ | refine chg_m ?_ _ | refine chg_g ?_ _ | refine chg_alloc ?_ _ | refine chg_drew ?_ | refine chg_drewN ?_ _ | refine chg_set ?_ _ _ _))
  have e1 : ((0 : Int) == of) = true := by rw [beq_iff_eq]; exact q1.symm
  have Q1 := Lib.hid q1
  clear q1
  by_cases q2 : dur = 0
  case neg =>
    have hr : decide (Ev.bare ⟨3, node, life, round, tag, of, dur, ⟨ha, hb, hc, hd⟩, ⟨ua, ub, uc, ud⟩⟩) = false := decide_eq_false (by unfold Ev.bare; rintro ⟨r1, r2, r3, r4, r5, r6⟩; exact q2 (r4 (by show (3 : Int) ≠ 5; decide)))
    have e2 : ((0 : Int) == dur) = false := by rw [beq_eq_false_iff_ne]; exact fun h => q2 h.symm
    rw [hr]
    clear hr q2
    go_enter Try.func44, Try.ntmps44
    go_wp2
    go_region
    go_wp2
    go_ret
    exact gr_mk rfl (by repeat (with_reducible first | exact Chg.refl _ _ | refine chg_m ?_ _ | refine chg_g ?_ _ | refine chg_alloc ?_ _ | refine chg_drew ?_ | refine chg_drewN ?_ _ | refine chg_set ?_ _ _ _))
  have e2 : ((0 : Int) == dur) = true := by rw [beq_iff_eq]; exact q2.symm
  have Q2 := Lib.hid q2
  clear q2
  have hr : decide (Ev.bare ⟨3, node, life, round, tag, of, dur, ⟨ha, hb, hc, hd⟩, ⟨ua, ub, uc, ud⟩⟩) = true := decide_eq_true ⟨fun h1 h2 h3 h4 => absurd rfl (by first | exact h1 | exact h2 | exact h3 | exact h4), fun _ _ _ => Q0.out, fun _ => Q1.out, fun _ => Q2.out, fun h1 => absurd rfl h1, fun h1 => absurd rfl h1⟩
  rw [hr]
  clear hr
  go_enter Try.func44, Try.ntmps44
  go_wp2
  go_region
  go_wp2
  go_ret
  exact gr_mk rfl (by repeat (with_reducible first | exact Chg.refl _ _ | refine chg_m ?_ _ | refine chg_g ?_ _ | refine chg_alloc ?_ _ | refine chg_drew ?_ | refine chg_drewN ?_ _ | refine chg_set ?_ _ _ _))
end Go.Proofs.Yteemkceceaabkaa
/- The reference's bare at kind 4. -/
namespace Go.Proofs.Yteemkceceaabkaa
open Go.RowKit Go.Ear
set_option maxHeartbeats 4000000
set_option maxRecDepth 100000
set_option linter.unusedSimpArgs false

theorem bare_4 (node life round tag of dur : Int) (ha hb hc hd ua ub uc ud : Nat) (w : World) : Calls Try.prog 44 #[.agg #[iv 4, iv node, iv life, iv round, iv tag, iv of, iv dur, u32v ha, u32v hb, u32v hc, u32v hd, u32v ua, u32v ub, u32v uc, u32v ud]] w (Gr (.bool (decide (Ev.bare ⟨4, node, life, round, tag, of, dur, ⟨ha, hb, hc, hd⟩, ⟨ua, ub, uc, ud⟩⟩))) w) := by
  have hss := fun W => eqSetS W ha hb hc hd
  have hsu := fun W => eqSetS W ua ub uc ud
  have hgs := guardSet
  by_cases q0 : dur = 0
  case neg =>
    have hr : decide (Ev.bare ⟨4, node, life, round, tag, of, dur, ⟨ha, hb, hc, hd⟩, ⟨ua, ub, uc, ud⟩⟩) = false := decide_eq_false (by unfold Ev.bare; rintro ⟨r1, r2, r3, r4, r5, r6⟩; exact q0 (r4 (by show (4 : Int) ≠ 5; decide)))
    have e0 : ((0 : Int) == dur) = false := by rw [beq_eq_false_iff_ne]; exact fun h => q0 h.symm
    rw [hr]
    clear hr q0
    go_enter Try.func44, Try.ntmps44
    go_wp2
    go_region
    go_wp2
    go_ret
    exact gr_mk rfl (by repeat (with_reducible first | exact Chg.refl _ _ | refine chg_m ?_ _ | refine chg_g ?_ _ | refine chg_alloc ?_ _ | refine chg_drew ?_ | refine chg_drewN ?_ _ | refine chg_set ?_ _ _ _))
  have e0 : ((0 : Int) == dur) = true := by rw [beq_iff_eq]; exact q0.symm
  have Q0 := Lib.hid q0
  clear q0
  by_cases q1 : (⟨ha, hb, hc, hd⟩ : St) = .zero
  case neg =>
    have hr : decide (Ev.bare ⟨4, node, life, round, tag, of, dur, ⟨ha, hb, hc, hd⟩, ⟨ua, ub, uc, ud⟩⟩) = false := decide_eq_false (by unfold Ev.bare; rintro ⟨r1, r2, r3, r4, r5, r6⟩; exact q1 (r5 (by show (4 : Int) ≠ 3; decide)))
    have e1 : ∀ W, (Op.equalIn 10000 74 (.agg #[.int .u32 0, .int .u32 0, .int .u32 0, .int .u32 0]) (.agg #[u32v ha, u32v hb, u32v hc, u32v hd])).run Try.prog W = .ok false W := fun W => (eqSet0 W _ _ _ _).trans (by rw [decide_eq_false q1])
    rw [hr]
    clear hr q1
    go_enter Try.func44, Try.ntmps44
    go_wp2
    go_region
    go_wp2
    go_ret
    exact gr_mk rfl (by repeat (with_reducible first | exact Chg.refl _ _ | refine chg_m ?_ _ | refine chg_g ?_ _ | refine chg_alloc ?_ _ | refine chg_drew ?_ | refine chg_drewN ?_ _ | refine chg_set ?_ _ _ _))
  have e1 : ∀ W, (Op.equalIn 10000 74 (.agg #[.int .u32 0, .int .u32 0, .int .u32 0, .int .u32 0]) (.agg #[u32v ha, u32v hb, u32v hc, u32v hd])).run Try.prog W = .ok true W := fun W => (eqSet0 W _ _ _ _).trans (by rw [decide_eq_true q1])
  have Q1 := Lib.hid q1
  clear q1
  by_cases q2 : (⟨ua, ub, uc, ud⟩ : St) = .zero
  case neg =>
    have hr : decide (Ev.bare ⟨4, node, life, round, tag, of, dur, ⟨ha, hb, hc, hd⟩, ⟨ua, ub, uc, ud⟩⟩) = false := decide_eq_false (by unfold Ev.bare; rintro ⟨r1, r2, r3, r4, r5, r6⟩; exact q2 (r6 (by show (4 : Int) ≠ 3; decide)))
    have e2 : ∀ W, (Op.equalIn 10000 74 (.agg #[.int .u32 0, .int .u32 0, .int .u32 0, .int .u32 0]) (.agg #[u32v ua, u32v ub, u32v uc, u32v ud])).run Try.prog W = .ok false W := fun W => (eqSet0 W _ _ _ _).trans (by rw [decide_eq_false q2])
    rw [hr]
    clear hr q2
    go_enter Try.func44, Try.ntmps44
    go_wp2
    go_region
    go_wp2
    go_ret
    exact gr_mk rfl (by repeat (with_reducible first | exact Chg.refl _ _ | refine chg_m ?_ _ | refine chg_g ?_ _ | refine chg_alloc ?_ _ | refine chg_drew ?_ | refine chg_drewN ?_ _ | refine chg_set ?_ _ _ _))
  have e2 : ∀ W, (Op.equalIn 10000 74 (.agg #[.int .u32 0, .int .u32 0, .int .u32 0, .int .u32 0]) (.agg #[u32v ua, u32v ub, u32v uc, u32v ud])).run Try.prog W = .ok true W := fun W => (eqSet0 W _ _ _ _).trans (by rw [decide_eq_true q2])
  have Q2 := Lib.hid q2
  clear q2
  have hr : decide (Ev.bare ⟨4, node, life, round, tag, of, dur, ⟨ha, hb, hc, hd⟩, ⟨ua, ub, uc, ud⟩⟩) = true := decide_eq_true ⟨fun h1 h2 h3 h4 => absurd rfl (by first | exact h1 | exact h2 | exact h3 | exact h4), fun h1 h2 h3 => absurd rfl (by first | exact h1 | exact h2 | exact h3), fun h1 => absurd rfl h1, fun _ => Q0.out, fun _ => Q1.out, fun _ => Q2.out⟩
  rw [hr]
  clear hr
  go_enter Try.func44, Try.ntmps44
  go_wp2
  go_region
  go_wp2
  go_ret
  exact gr_mk rfl (by repeat (with_reducible first | exact Chg.refl _ _ | refine chg_m ?_ _ | refine chg_g ?_ _ | refine chg_alloc ?_ _ | refine chg_drew ?_ | refine chg_drewN ?_ _ | refine chg_set ?_ _ _ _))
end Go.Proofs.Yteemkceceaabkaa
/- The reference's bare at kind 5. -/
namespace Go.Proofs.Yteemkceceaabkaa
open Go.RowKit Go.Ear
set_option maxHeartbeats 4000000
set_option maxRecDepth 100000
set_option linter.unusedSimpArgs false

theorem bare_5 (node life round tag of dur : Int) (ha hb hc hd ua ub uc ud : Nat) (w : World) : Calls Try.prog 44 #[.agg #[iv 5, iv node, iv life, iv round, iv tag, iv of, iv dur, u32v ha, u32v hb, u32v hc, u32v hd, u32v ua, u32v ub, u32v uc, u32v ud]] w (Gr (.bool (decide (Ev.bare ⟨5, node, life, round, tag, of, dur, ⟨ha, hb, hc, hd⟩, ⟨ua, ub, uc, ud⟩⟩))) w) := by
  have hss := fun W => eqSetS W ha hb hc hd
  have hsu := fun W => eqSetS W ua ub uc ud
  have hgs := guardSet
  by_cases q0 : round = 0
  case neg =>
    have hr : decide (Ev.bare ⟨5, node, life, round, tag, of, dur, ⟨ha, hb, hc, hd⟩, ⟨ua, ub, uc, ud⟩⟩) = false := decide_eq_false (by unfold Ev.bare; rintro ⟨r1, r2, r3, r4, r5, r6⟩; exact q0 (r1 (by show (5 : Int) ≠ 1; decide) (by show (5 : Int) ≠ 2; decide) (by show (5 : Int) ≠ 3; decide) (by show (5 : Int) ≠ 4; decide)))
    have e0 : ((0 : Int) == round) = false := by rw [beq_eq_false_iff_ne]; exact fun h => q0 h.symm
    rw [hr]
    clear hr q0
    go_enter Try.func44, Try.ntmps44
    go_wp2
    go_region
    go_wp2
    go_ret
    exact gr_mk rfl (by repeat (with_reducible first | exact Chg.refl _ _ | refine chg_m ?_ _ | refine chg_g ?_ _ | refine chg_alloc ?_ _ | refine chg_drew ?_ | refine chg_drewN ?_ _ | refine chg_set ?_ _ _ _))
  have e0 : ((0 : Int) == round) = true := by rw [beq_iff_eq]; exact q0.symm
  have Q0 := Lib.hid q0
  clear q0
  by_cases q1 : of = 0
  case neg =>
    have hr : decide (Ev.bare ⟨5, node, life, round, tag, of, dur, ⟨ha, hb, hc, hd⟩, ⟨ua, ub, uc, ud⟩⟩) = false := decide_eq_false (by unfold Ev.bare; rintro ⟨r1, r2, r3, r4, r5, r6⟩; exact q1 (r3 (by show (5 : Int) ≠ 4; decide)))
    have e1 : ((0 : Int) == of) = false := by rw [beq_eq_false_iff_ne]; exact fun h => q1 h.symm
    rw [hr]
    clear hr q1
    go_enter Try.func44, Try.ntmps44
    go_wp2
    go_region
    go_wp2
    go_ret
    exact gr_mk rfl (by repeat (with_reducible first | exact Chg.refl _ _ | refine chg_m ?_ _ | refine chg_g ?_ _ | refine chg_alloc ?_ _ | refine chg_drew ?_ | refine chg_drewN ?_ _ | refine chg_set ?_ _ _ _))
  have e1 : ((0 : Int) == of) = true := by rw [beq_iff_eq]; exact q1.symm
  have Q1 := Lib.hid q1
  clear q1
  by_cases q2 : (⟨ha, hb, hc, hd⟩ : St) = .zero
  case neg =>
    have hr : decide (Ev.bare ⟨5, node, life, round, tag, of, dur, ⟨ha, hb, hc, hd⟩, ⟨ua, ub, uc, ud⟩⟩) = false := decide_eq_false (by unfold Ev.bare; rintro ⟨r1, r2, r3, r4, r5, r6⟩; exact q2 (r5 (by show (5 : Int) ≠ 3; decide)))
    have e2 : ∀ W, (Op.equalIn 10000 74 (.agg #[.int .u32 0, .int .u32 0, .int .u32 0, .int .u32 0]) (.agg #[u32v ha, u32v hb, u32v hc, u32v hd])).run Try.prog W = .ok false W := fun W => (eqSet0 W _ _ _ _).trans (by rw [decide_eq_false q2])
    rw [hr]
    clear hr q2
    go_enter Try.func44, Try.ntmps44
    go_wp2
    go_region
    go_wp2
    go_ret
    exact gr_mk rfl (by repeat (with_reducible first | exact Chg.refl _ _ | refine chg_m ?_ _ | refine chg_g ?_ _ | refine chg_alloc ?_ _ | refine chg_drew ?_ | refine chg_drewN ?_ _ | refine chg_set ?_ _ _ _))
  have e2 : ∀ W, (Op.equalIn 10000 74 (.agg #[.int .u32 0, .int .u32 0, .int .u32 0, .int .u32 0]) (.agg #[u32v ha, u32v hb, u32v hc, u32v hd])).run Try.prog W = .ok true W := fun W => (eqSet0 W _ _ _ _).trans (by rw [decide_eq_true q2])
  have Q2 := Lib.hid q2
  clear q2
  by_cases q3 : (⟨ua, ub, uc, ud⟩ : St) = .zero
  case neg =>
    have hr : decide (Ev.bare ⟨5, node, life, round, tag, of, dur, ⟨ha, hb, hc, hd⟩, ⟨ua, ub, uc, ud⟩⟩) = false := decide_eq_false (by unfold Ev.bare; rintro ⟨r1, r2, r3, r4, r5, r6⟩; exact q3 (r6 (by show (5 : Int) ≠ 3; decide)))
    have e3 : ∀ W, (Op.equalIn 10000 74 (.agg #[.int .u32 0, .int .u32 0, .int .u32 0, .int .u32 0]) (.agg #[u32v ua, u32v ub, u32v uc, u32v ud])).run Try.prog W = .ok false W := fun W => (eqSet0 W _ _ _ _).trans (by rw [decide_eq_false q3])
    rw [hr]
    clear hr q3
    go_enter Try.func44, Try.ntmps44
    go_wp2
    go_region
    go_wp2
    go_ret
    exact gr_mk rfl (by repeat (with_reducible first | exact Chg.refl _ _ | refine chg_m ?_ _ | refine chg_g ?_ _ | refine chg_alloc ?_ _ | refine chg_drew ?_ | refine chg_drewN ?_ _ | refine chg_set ?_ _ _ _))
  have e3 : ∀ W, (Op.equalIn 10000 74 (.agg #[.int .u32 0, .int .u32 0, .int .u32 0, .int .u32 0]) (.agg #[u32v ua, u32v ub, u32v uc, u32v ud])).run Try.prog W = .ok true W := fun W => (eqSet0 W _ _ _ _).trans (by rw [decide_eq_true q3])
  have Q3 := Lib.hid q3
  clear q3
  have hr : decide (Ev.bare ⟨5, node, life, round, tag, of, dur, ⟨ha, hb, hc, hd⟩, ⟨ua, ub, uc, ud⟩⟩) = true := decide_eq_true ⟨fun _ _ _ _ => Q0.out, fun h1 h2 h3 => absurd rfl (by first | exact h1 | exact h2 | exact h3), fun _ => Q1.out, fun h1 => absurd rfl h1, fun _ => Q2.out, fun _ => Q3.out⟩
  rw [hr]
  clear hr
  go_enter Try.func44, Try.ntmps44
  go_wp2
  go_region
  go_wp2
  go_ret
  exact gr_mk rfl (by repeat (with_reducible first | exact Chg.refl _ _ | refine chg_m ?_ _ | refine chg_g ?_ _ | refine chg_alloc ?_ _ | refine chg_drew ?_ | refine chg_drewN ?_ _ | refine chg_set ?_ _ _ _))
end Go.Proofs.Yteemkceceaabkaa
/- The reference's bare at kind 6. -/
namespace Go.Proofs.Yteemkceceaabkaa
open Go.RowKit Go.Ear
set_option maxHeartbeats 4000000
set_option maxRecDepth 100000
set_option linter.unusedSimpArgs false

theorem bare_6 (node life round tag of dur : Int) (ha hb hc hd ua ub uc ud : Nat) (w : World) : Calls Try.prog 44 #[.agg #[iv 6, iv node, iv life, iv round, iv tag, iv of, iv dur, u32v ha, u32v hb, u32v hc, u32v hd, u32v ua, u32v ub, u32v uc, u32v ud]] w (Gr (.bool (decide (Ev.bare ⟨6, node, life, round, tag, of, dur, ⟨ha, hb, hc, hd⟩, ⟨ua, ub, uc, ud⟩⟩))) w) := by
  have hss := fun W => eqSetS W ha hb hc hd
  have hsu := fun W => eqSetS W ua ub uc ud
  have hgs := guardSet
  by_cases q0 : round = 0
  case neg =>
    have hr : decide (Ev.bare ⟨6, node, life, round, tag, of, dur, ⟨ha, hb, hc, hd⟩, ⟨ua, ub, uc, ud⟩⟩) = false := decide_eq_false (by unfold Ev.bare; rintro ⟨r1, r2, r3, r4, r5, r6⟩; exact q0 (r1 (by show (6 : Int) ≠ 1; decide) (by show (6 : Int) ≠ 2; decide) (by show (6 : Int) ≠ 3; decide) (by show (6 : Int) ≠ 4; decide)))
    have e0 : ((0 : Int) == round) = false := by rw [beq_eq_false_iff_ne]; exact fun h => q0 h.symm
    rw [hr]
    clear hr q0
    go_enter Try.func44, Try.ntmps44
    go_wp2
    go_ret
    exact gr_mk rfl (by repeat (with_reducible first | exact Chg.refl _ _ | refine chg_m ?_ _ | refine chg_g ?_ _ | refine chg_alloc ?_ _ | refine chg_drew ?_ | refine chg_drewN ?_ _ | refine chg_set ?_ _ _ _))
  have e0 : ((0 : Int) == round) = true := by rw [beq_iff_eq]; exact q0.symm
  have Q0 := Lib.hid q0
  clear q0
  by_cases q1 : tag = 0
  case neg =>
    have hr : decide (Ev.bare ⟨6, node, life, round, tag, of, dur, ⟨ha, hb, hc, hd⟩, ⟨ua, ub, uc, ud⟩⟩) = false := decide_eq_false (by unfold Ev.bare; rintro ⟨r1, r2, r3, r4, r5, r6⟩; exact q1 (r2 (by show (6 : Int) ≠ 1; decide) (by show (6 : Int) ≠ 4; decide) (by show (6 : Int) ≠ 5; decide)))
    have e1 : ((0 : Int) == tag) = false := by rw [beq_eq_false_iff_ne]; exact fun h => q1 h.symm
    rw [hr]
    clear hr q1
    go_enter Try.func44, Try.ntmps44
    go_wp2
    go_ret
    exact gr_mk rfl (by repeat (with_reducible first | exact Chg.refl _ _ | refine chg_m ?_ _ | refine chg_g ?_ _ | refine chg_alloc ?_ _ | refine chg_drew ?_ | refine chg_drewN ?_ _ | refine chg_set ?_ _ _ _))
  have e1 : ((0 : Int) == tag) = true := by rw [beq_iff_eq]; exact q1.symm
  have Q1 := Lib.hid q1
  clear q1
  by_cases q2 : of = 0
  case neg =>
    have hr : decide (Ev.bare ⟨6, node, life, round, tag, of, dur, ⟨ha, hb, hc, hd⟩, ⟨ua, ub, uc, ud⟩⟩) = false := decide_eq_false (by unfold Ev.bare; rintro ⟨r1, r2, r3, r4, r5, r6⟩; exact q2 (r3 (by show (6 : Int) ≠ 4; decide)))
    have e2 : ((0 : Int) == of) = false := by rw [beq_eq_false_iff_ne]; exact fun h => q2 h.symm
    rw [hr]
    clear hr q2
    go_enter Try.func44, Try.ntmps44
    go_wp2
    go_ret
    exact gr_mk rfl (by repeat (with_reducible first | exact Chg.refl _ _ | refine chg_m ?_ _ | refine chg_g ?_ _ | refine chg_alloc ?_ _ | refine chg_drew ?_ | refine chg_drewN ?_ _ | refine chg_set ?_ _ _ _))
  have e2 : ((0 : Int) == of) = true := by rw [beq_iff_eq]; exact q2.symm
  have Q2 := Lib.hid q2
  clear q2
  by_cases q3 : dur = 0
  case neg =>
    have hr : decide (Ev.bare ⟨6, node, life, round, tag, of, dur, ⟨ha, hb, hc, hd⟩, ⟨ua, ub, uc, ud⟩⟩) = false := decide_eq_false (by unfold Ev.bare; rintro ⟨r1, r2, r3, r4, r5, r6⟩; exact q3 (r4 (by show (6 : Int) ≠ 5; decide)))
    have e3 : ((0 : Int) == dur) = false := by rw [beq_eq_false_iff_ne]; exact fun h => q3 h.symm
    rw [hr]
    clear hr q3
    go_enter Try.func44, Try.ntmps44
    go_wp2
    go_ret
    exact gr_mk rfl (by repeat (with_reducible first | exact Chg.refl _ _ | refine chg_m ?_ _ | refine chg_g ?_ _ | refine chg_alloc ?_ _ | refine chg_drew ?_ | refine chg_drewN ?_ _ | refine chg_set ?_ _ _ _))
  have e3 : ((0 : Int) == dur) = true := by rw [beq_iff_eq]; exact q3.symm
  have Q3 := Lib.hid q3
  clear q3
  by_cases q4 : (⟨ha, hb, hc, hd⟩ : St) = .zero
  case neg =>
    have hr : decide (Ev.bare ⟨6, node, life, round, tag, of, dur, ⟨ha, hb, hc, hd⟩, ⟨ua, ub, uc, ud⟩⟩) = false := decide_eq_false (by unfold Ev.bare; rintro ⟨r1, r2, r3, r4, r5, r6⟩; exact q4 (r5 (by show (6 : Int) ≠ 3; decide)))
    have e4 : ∀ W, (Op.equalIn 10000 74 (.agg #[.int .u32 0, .int .u32 0, .int .u32 0, .int .u32 0]) (.agg #[u32v ha, u32v hb, u32v hc, u32v hd])).run Try.prog W = .ok false W := fun W => (eqSet0 W _ _ _ _).trans (by rw [decide_eq_false q4])
    rw [hr]
    clear hr q4
    go_enter Try.func44, Try.ntmps44
    go_wp2
    go_ret
    exact gr_mk rfl (by repeat (with_reducible first | exact Chg.refl _ _ | refine chg_m ?_ _ | refine chg_g ?_ _ | refine chg_alloc ?_ _ | refine chg_drew ?_ | refine chg_drewN ?_ _ | refine chg_set ?_ _ _ _))
  have e4 : ∀ W, (Op.equalIn 10000 74 (.agg #[.int .u32 0, .int .u32 0, .int .u32 0, .int .u32 0]) (.agg #[u32v ha, u32v hb, u32v hc, u32v hd])).run Try.prog W = .ok true W := fun W => (eqSet0 W _ _ _ _).trans (by rw [decide_eq_true q4])
  have Q4 := Lib.hid q4
  clear q4
  by_cases q5 : (⟨ua, ub, uc, ud⟩ : St) = .zero
  case neg =>
    have hr : decide (Ev.bare ⟨6, node, life, round, tag, of, dur, ⟨ha, hb, hc, hd⟩, ⟨ua, ub, uc, ud⟩⟩) = false := decide_eq_false (by unfold Ev.bare; rintro ⟨r1, r2, r3, r4, r5, r6⟩; exact q5 (r6 (by show (6 : Int) ≠ 3; decide)))
    have e5 : ∀ W, (Op.equalIn 10000 74 (.agg #[.int .u32 0, .int .u32 0, .int .u32 0, .int .u32 0]) (.agg #[u32v ua, u32v ub, u32v uc, u32v ud])).run Try.prog W = .ok false W := fun W => (eqSet0 W _ _ _ _).trans (by rw [decide_eq_false q5])
    rw [hr]
    clear hr q5
    go_enter Try.func44, Try.ntmps44
    go_wp2
    go_ret
    exact gr_mk rfl (by repeat (with_reducible first | exact Chg.refl _ _ | refine chg_m ?_ _ | refine chg_g ?_ _ | refine chg_alloc ?_ _ | refine chg_drew ?_ | refine chg_drewN ?_ _ | refine chg_set ?_ _ _ _))
  have e5 : ∀ W, (Op.equalIn 10000 74 (.agg #[.int .u32 0, .int .u32 0, .int .u32 0, .int .u32 0]) (.agg #[u32v ua, u32v ub, u32v uc, u32v ud])).run Try.prog W = .ok true W := fun W => (eqSet0 W _ _ _ _).trans (by rw [decide_eq_true q5])
  have Q5 := Lib.hid q5
  clear q5
  have hr : decide (Ev.bare ⟨6, node, life, round, tag, of, dur, ⟨ha, hb, hc, hd⟩, ⟨ua, ub, uc, ud⟩⟩) = true := decide_eq_true ⟨fun _ _ _ _ => Q0.out, fun _ _ _ => Q1.out, fun _ => Q2.out, fun _ => Q3.out, fun _ => Q4.out, fun _ => Q5.out⟩
  rw [hr]
  clear hr
  go_enter Try.func44, Try.ntmps44
  go_wp2
  go_ret
  exact gr_mk rfl (by repeat (with_reducible first | exact Chg.refl _ _ | refine chg_m ?_ _ | refine chg_g ?_ _ | refine chg_alloc ?_ _ | refine chg_drew ?_ | refine chg_drewN ?_ _ | refine chg_set ?_ _ _ _))
end Go.Proofs.Yteemkceceaabkaa
