/- The auditor's event at events that can not be at all. -/
import Derived.Test.YteemkceceaabkaaGreatAe0
namespace Go.Proofs.YteemkceceaabkaaGreat
open Go.RowKit Go.Ear Go.ChangeMaps
set_option maxHeartbeats 8000000
set_option maxRecDepth 100000
set_option linter.unusedSimpArgs false
set_option linter.unusedVariables false
attribute [local go_sem ↓] Go.wp_at_zero Go.wp_at_succ

/-- An event that can not be at all. -/
theorem event_unfit (w : World) (p q n f : Nat) (s : Au) (e : Ev) (hA : AuIs w p q n f s) (hbad : ¬ e.fit n) :
    Calls Tryz.prog 134 #[.pointer (some ⟨p, 0, none⟩), e.v] w (Went w p q n f (s.step n f e)) := by
  have hno : s.step n f e = none := by
    unfold Au.step
    rw [if_neg]
    rintro ⟨h1, _⟩
    exact hbad h1
  rw [hno]
  clear hno
  obtain ⟨kind, node, life, round, tag, of, dur, ⟨ha, hb, hc, hd⟩, ⟨ua, ub, uc, ud⟩⟩ := e
  have jp : Old p w := ⟨hA.ltp⟩
  obtain ⟨cp0, fp0, kp0⟩ := hA.cellp 0 (iv n) rfl
  change Calls _ _ #[_, .agg #[iv kind, iv node, iv life, iv round, iv tag, iv of, iv dur, u32v ha, u32v hb, u32v hc, u32v hd, u32v ua, u32v ub, u32v uc, u32v ud]] _ _
  have hways : (kind < 1 ∨ 6 < kind) ∨ ((1 ≤ kind ∧ kind ≤ 6) ∧ (node < 0 ∨ (0 ≤ node ∧ (n : Int) ≤ node) ∨ ((0 ≤ node ∧ node < n) ∧ (life < 1 ∨ (1 ≤ life ∧ 1073741824 < life))))) := by
    unfold Ev.fit at hbad
    simp only at hbad
    omega
  have hms : ∀ (_ : 1 ≤ kind ∧ kind ≤ 6), ∃ v, mlook (kindsOf p) kind = some v := fun h => by
    rcases (show kind = 1 ∨ kind = 2 ∨ kind = 3 ∨ kind = 4 ∨ kind = 5 ∨ kind = 6 by omega) with rfl | rfl | rfl | rfl | rfl | rfl <;> exact ⟨_, rfl⟩
  have HMS := Lib.hid hms
  clear hbad hA hms
  obtain ⟨u1, u2, u3, u4, u5, u6⟩ := ups (w.alloc (.cells #[iv kind, iv node, iv life, iv round, iv tag, iv of, iv dur, u32v ha, u32v hb, u32v hc, u32v hd, u32v ua, u32v ub, u32v uc, u32v ud] 78)) p (w.heap.size + 1) (by simp)
  simp only [mv, ent, F1, F2, F3, F4, F5, F6] at u1 u2 u3 u4 u5 u6
  have hmf : ∀ (fn : Fn) (first cap : Array Value) (w : World), (Instr.makeFunc fn first cap).run Tryz.prog w = .ok (.func fn first cap) w := fun _ _ _ _ => rfl
  have hmm := @run_makeMap Tryz.prog
  rcases hways with h1 | ⟨h1, h3 | ⟨h3, h4⟩ | ⟨⟨h3, h4⟩, h5 | ⟨h5, h6⟩⟩⟩
  · have hlk := kinds_none (w.alloc (.cells #[iv kind, iv node, iv life, iv round, iv tag, iv of, iv dur, u32v ha, u32v hb, u32v hc, u32v hd, u32v ua, u32v ub, u32v uc, u32v ud] 78)) p (w.heap.size + 1) (by simp) kind h1
    clear h1 HMS
    simp only [kindsObj, mv, ent, F1, F2, F3, F4, F5, F6] at u6 hlk
    go_enter Tryz.func134, Tryz.ntmps134
    go_wp2
    refine wp_region_head_call 25 (by kernel_rfl) (by kernel_rfl) ?_
    simp only [List.take_succ_cons, List.take_zero]
    repeat (go_big_quiet_step ((fail)))
    refine wpQuiet_nil ?_
    intro gN o ho
    simp only [List.getElem?_cons_succ, List.getElem?_cons_zero, Option.some.injEq] at ho
    subst ho
    simp only [List.drop_succ_cons, List.drop_zero]
    go_simp
    go_at_call 143
    refine (need_no _).mono ?_
    rintro e' w' ⟨rfl, rfl⟩
    exact ⟨rfl, (by repeat (with_reducible first | exact Chg.refl _ _ | refine chg_m ?_ _ | refine chg_g ?_ _ | refine chg_alloc ?_ _ | refine chg_drew ?_ | refine chg_drewN ?_ _ | refine chg_set ?_ _ _ _)), .inl ⟨rfl, rfl⟩⟩
  · obtain ⟨v, hv⟩ := HMS.out h1
    have hlk := kinds_some (w.alloc (.cells #[iv kind, iv node, iv life, iv round, iv tag, iv of, iv dur, u32v ha, u32v hb, u32v hc, u32v hd, u32v ua, u32v ub, u32v uc, u32v ud] 78)) p (w.heap.size + 1) (by simp) kind v hv
    clear hv
    have q0 : decide (0 ≤ node) = false := decide_eq_false (by omega)
    clear h1 h3 HMS
    simp only [kindsObj, mv, ent, F1, F2, F3, F4, F5, F6] at u6 hlk
    go_enter Tryz.func134, Tryz.ntmps134
    go_wp2
    refine wp_region_head_call 25 (by kernel_rfl) (by kernel_rfl) ?_
    simp only [List.take_succ_cons, List.take_zero]
    repeat (go_big_quiet_step ((fail)))
    refine wpQuiet_nil ?_
    intro gN o ho
    simp only [List.getElem?_cons_succ, List.getElem?_cons_zero, Option.some.injEq] at ho
    subst ho
    simp only [List.drop_succ_cons, List.drop_zero]
    go_simp
    go_at_call 143
    refine (need_no _).mono ?_
    rintro e' w' ⟨rfl, rfl⟩
    exact ⟨rfl, (by repeat (with_reducible first | exact Chg.refl _ _ | refine chg_m ?_ _ | refine chg_g ?_ _ | refine chg_alloc ?_ _ | refine chg_drew ?_ | refine chg_drewN ?_ _ | refine chg_set ?_ _ _ _)), .inl ⟨rfl, rfl⟩⟩
  · obtain ⟨v, hv⟩ := HMS.out h1
    have hlk := kinds_some (w.alloc (.cells #[iv kind, iv node, iv life, iv round, iv tag, iv of, iv dur, u32v ha, u32v hb, u32v hc, u32v hd, u32v ua, u32v ub, u32v uc, u32v ud] 78)) p (w.heap.size + 1) (by simp) kind v hv
    clear hv
    have q0 : decide (0 ≤ node) = true := decide_eq_true (by omega)
    have q1 : decide (node < (n : Int)) = false := decide_eq_false (by omega)
    clear h1 h3 h4 HMS
    simp only [kindsObj, mv, ent, F1, F2, F3, F4, F5, F6] at u6 hlk
    go_enter Tryz.func134, Tryz.ntmps134
    go_wp2
    refine wp_region_head_call 25 (by kernel_rfl) (by kernel_rfl) ?_
    simp only [List.take_succ_cons, List.take_zero]
    repeat (go_big_quiet_step ((fail)))
    refine wpQuiet_nil ?_
    intro gN o ho
    simp only [List.getElem?_cons_succ, List.getElem?_cons_zero, Option.some.injEq] at ho
    subst ho
    simp only [List.drop_succ_cons, List.drop_zero]
    go_simp
    go_at_call 143
    refine (need_no _).mono ?_
    rintro e' w' ⟨rfl, rfl⟩
    exact ⟨rfl, (by repeat (with_reducible first | exact Chg.refl _ _ | refine chg_m ?_ _ | refine chg_g ?_ _ | refine chg_alloc ?_ _ | refine chg_drew ?_ | refine chg_drewN ?_ _ | refine chg_set ?_ _ _ _)), .inl ⟨rfl, rfl⟩⟩
  · obtain ⟨v, hv⟩ := HMS.out h1
    have hlk := kinds_some (w.alloc (.cells #[iv kind, iv node, iv life, iv round, iv tag, iv of, iv dur, u32v ha, u32v hb, u32v hc, u32v hd, u32v ua, u32v ub, u32v uc, u32v ud] 78)) p (w.heap.size + 1) (by simp) kind v hv
    clear hv
    have q0 : decide (0 ≤ node) = true := decide_eq_true (by omega)
    have q1 : decide (node < (n : Int)) = true := decide_eq_true (by omega)
    have q2 : decide (1 ≤ life) = false := decide_eq_false (by omega)
    clear h1 h3 h4 h5 HMS
    simp only [kindsObj, mv, ent, F1, F2, F3, F4, F5, F6] at u6 hlk
    go_enter Tryz.func134, Tryz.ntmps134
    go_wp2
    refine wp_region_head_call 25 (by kernel_rfl) (by kernel_rfl) ?_
    simp only [List.take_succ_cons, List.take_zero]
    repeat (go_big_quiet_step ((fail)))
    refine wpQuiet_nil ?_
    intro gN o ho
    simp only [List.getElem?_cons_succ, List.getElem?_cons_zero, Option.some.injEq] at ho
    subst ho
    simp only [List.drop_succ_cons, List.drop_zero]
    go_simp
    go_at_call 143
    refine (need_no _).mono ?_
    rintro e' w' ⟨rfl, rfl⟩
    exact ⟨rfl, (by repeat (with_reducible first | exact Chg.refl _ _ | refine chg_m ?_ _ | refine chg_g ?_ _ | refine chg_alloc ?_ _ | refine chg_drew ?_ | refine chg_drewN ?_ _ | refine chg_set ?_ _ _ _)), .inl ⟨rfl, rfl⟩⟩
  · obtain ⟨v, hv⟩ := HMS.out h1
    have hlk := kinds_some (w.alloc (.cells #[iv kind, iv node, iv life, iv round, iv tag, iv of, iv dur, u32v ha, u32v hb, u32v hc, u32v hd, u32v ua, u32v ub, u32v uc, u32v ud] 78)) p (w.heap.size + 1) (by simp) kind v hv
    clear hv
    have q0 : decide (0 ≤ node) = true := decide_eq_true (by omega)
    have q1 : decide (node < (n : Int)) = true := decide_eq_true (by omega)
    have q2 : decide (1 ≤ life) = true := decide_eq_true (by omega)
    have q3 : decide (life ≤ 1073741824) = false := decide_eq_false (by omega)
    clear h1 h3 h4 h5 h6 HMS
    simp only [kindsObj, mv, ent, F1, F2, F3, F4, F5, F6] at u6 hlk
    go_enter Tryz.func134, Tryz.ntmps134
    go_wp2
    refine wp_region_head_call 25 (by kernel_rfl) (by kernel_rfl) ?_
    simp only [List.take_succ_cons, List.take_zero]
    repeat (go_big_quiet_step ((fail)))
    refine wpQuiet_nil ?_
    intro gN o ho
    simp only [List.getElem?_cons_succ, List.getElem?_cons_zero, Option.some.injEq] at ho
    subst ho
    simp only [List.drop_succ_cons, List.drop_zero]
    go_simp
    go_at_call 143
    refine (need_no _).mono ?_
    rintro e' w' ⟨rfl, rfl⟩
    exact ⟨rfl, (by repeat (with_reducible first | exact Chg.refl _ _ | refine chg_m ?_ _ | refine chg_g ?_ _ | refine chg_alloc ?_ _ | refine chg_drew ?_ | refine chg_drewN ?_ _ | refine chg_set ?_ _ _ _)), .inl ⟨rfl, rfl⟩⟩
end Go.Proofs.YteemkceceaabkaaGreat
