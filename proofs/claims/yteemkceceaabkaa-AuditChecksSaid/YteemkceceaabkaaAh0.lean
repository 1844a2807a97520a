/- The reference's bare at any kind; its holds at events that can not be at all. -/
import Derived.Test.YteemkceceaabkaaAd0
import Derived.Test.YteemkceceaabkaaAbx
set_option linter.unusedSimpArgs false
set_option linter.unusedVariables false
namespace Go.Proofs.Yteemkceceaabkaa
open Go.RowKit Go.Ear
set_option maxHeartbeats 8000000
set_option maxRecDepth 100000
set_option linter.unusedSimpArgs false
attribute [local go_sem ↓] Go.wp_at_zero Go.wp_at_succ

theorem bare_any (k node life round tag of dur : Int) (ha hb hc hd ua ub uc ud : Nat) (h1 : 1 ≤ k) (h6 : k ≤ 6) (w : World) : Calls Try.prog 44 #[.agg #[iv k, iv node, iv life, iv round, iv tag, iv of, iv dur, u32v ha, u32v hb, u32v hc, u32v hd, u32v ua, u32v ub, u32v uc, u32v ud]] w (Gr (.bool (decide (Ev.bare (⟨k, node, life, round, tag, of, dur, ⟨ha, hb, hc, hd⟩, ⟨ua, ub, uc, ud⟩⟩ : Ev)))) w) := by
  rcases (show k = 1 ∨ k = 2 ∨ k = 3 ∨ k = 4 ∨ k = 5 ∨ k = 6 by omega) with rfl | rfl | rfl | rfl | rfl | rfl
  · exact bare_1 node life round tag of dur ha hb hc hd ua ub uc ud w
  · exact bare_2 node life round tag of dur ha hb hc hd ua ub uc ud w
  · exact bare_3 node life round tag of dur ha hb hc hd ua ub uc ud w
  · exact bare_4 node life round tag of dur ha hb hc hd ua ub uc ud w
  · exact bare_5 node life round tag of dur ha hb hc hd ua ub uc ud w
  · exact bare_6 node life round tag of dur ha hb hc hd ua ub uc ud w

/-- An event that can not be at all. -/
theorem holds_unfit (w : World) (p n f : Nat) (s : Au) (e : Ev) (hD : DeskIs w p n f s) (hbad : ¬ e.fit n ∨ (e.fit n ∧ ¬ e.bare)) :
    Calls Try.prog 39 #[.pointer (some ⟨p, 0, none⟩), e.v] w (Held w p n f (s.step n f e)) := by
  have hno : s.step n f e = none := by
    unfold Au.step
    rw [if_neg]
    rintro ⟨h1, h2, _⟩
    rcases hbad with h | ⟨_, h⟩
    · exact h h1
    · exact h h2
  rw [hno]
  clear hno
  obtain ⟨kind, node, life, round, tag, of, dur, ⟨ha, hb, hc, hd⟩, ⟨ua, ub, uc, ud⟩⟩ := e
  obtain ⟨cs, hR, hD⟩ := hD
  obtain ⟨c0, f0, k0⟩ := hR.cell hD.c0
  have jp : Old p w := ⟨hR.lt⟩
  clear hR hD
  change Calls _ _ #[_, .agg #[iv kind, iv node, iv life, iv round, iv tag, iv of, iv dur, u32v ha, u32v hb, u32v hc, u32v hd, u32v ua, u32v ub, u32v uc, u32v ud]] _ _
  have hways : kind < 1 ∨ (1 ≤ kind ∧ 6 < kind) ∨ ((1 ≤ kind ∧ kind ≤ 6) ∧ (node < 0 ∨ (0 ≤ node ∧ (n : Int) ≤ node) ∨ ((0 ≤ node ∧ node < n) ∧ (life < 1 ∨ (1 ≤ life ∧ 1073741824 < life) ∨ ((1 ≤ life ∧ life ≤ 1073741824) ∧ ¬ Ev.bare (⟨kind, node, life, round, tag, of, dur, ⟨ha, hb, hc, hd⟩, ⟨ua, ub, uc, ud⟩⟩ : Ev)))))) := by
    unfold Ev.fit at hbad
    simp only at hbad
    rcases hbad with h | ⟨⟨h1, h2, h3, h4, h5, h6⟩, h7⟩
    · omega
    · exact .inr (.inr ⟨⟨h1, h2⟩, .inr (.inr ⟨⟨h3, h4⟩, .inr (.inr ⟨⟨h5, h6⟩, h7⟩)⟩)⟩)
  clear hbad
  rcases hways with h1 | ⟨h1, h2⟩ | ⟨⟨h1, h2⟩, h3 | ⟨h3, h4⟩ | ⟨⟨h3, h4⟩, h5 | ⟨h5, h6⟩ | ⟨⟨h5, h6⟩, h7⟩⟩⟩
  · have q0 : decide (kind < 1) = true := by simp; omega
    clear h1
    go_enter Try.func39, Try.ntmps39
    go_wp2
    refine wp_region_grows (by kernel_rfl) (by kernel_rfl) ?_
    repeat (go_big_quiet_step ((fail)))
    refine wpQuiet_nil ?_
    rintro _ ⟨gg, rfl⟩
    go_wp2
    go_ret
    exact ⟨(by repeat (with_reducible first | exact Chg.refl _ _ | refine chg_m ?_ _ | refine chg_g ?_ _ | refine chg_alloc ?_ _ | refine chg_drew ?_ | refine chg_drewN ?_ _ | refine chg_set ?_ _ _ _)), .inl ⟨rfl, rfl⟩⟩
  · have q0 : decide (kind < 1) = false := by simp; omega
    have q1 : decide (6 < kind) = true := by simp; omega
    clear h1 h2
    go_enter Try.func39, Try.ntmps39
    go_wp2
    refine wp_region_grows (by kernel_rfl) (by kernel_rfl) ?_
    repeat (go_big_quiet_step ((fail)))
    refine wpQuiet_nil ?_
    rintro _ ⟨gg, rfl⟩
    go_wp2
    go_ret
    exact ⟨(by repeat (with_reducible first | exact Chg.refl _ _ | refine chg_m ?_ _ | refine chg_g ?_ _ | refine chg_alloc ?_ _ | refine chg_drew ?_ | refine chg_drewN ?_ _ | refine chg_set ?_ _ _ _)), .inl ⟨rfl, rfl⟩⟩
  · have q0 : decide (kind < 1) = false := by simp; omega
    have q1 : decide (6 < kind) = false := by simp; omega
    have q2 : decide (node < 0) = true := by simp; omega
    clear h1 h2 h3
    go_enter Try.func39, Try.ntmps39
    go_wp2
    refine wp_region_grows (by kernel_rfl) (by kernel_rfl) ?_
    repeat (go_big_quiet_step ((fail)))
    refine wpQuiet_nil ?_
    rintro _ ⟨gg, rfl⟩
    go_wp2
    go_ret
    exact ⟨(by repeat (with_reducible first | exact Chg.refl _ _ | refine chg_m ?_ _ | refine chg_g ?_ _ | refine chg_alloc ?_ _ | refine chg_drew ?_ | refine chg_drewN ?_ _ | refine chg_set ?_ _ _ _)), .inl ⟨rfl, rfl⟩⟩
  · have q0 : decide (kind < 1) = false := by simp; omega
    have q1 : decide (6 < kind) = false := by simp; omega
    have q2 : decide (node < 0) = false := by simp; omega
    have q3 : decide ((n : Int) ≤ node) = true := by simp; omega
    clear h1 h2 h3 h4
    go_enter Try.func39, Try.ntmps39
    go_wp2
    refine wp_region_grows (by kernel_rfl) (by kernel_rfl) ?_
    repeat (go_big_quiet_step ((fail)))
    refine wpQuiet_nil ?_
    rintro _ ⟨gg, rfl⟩
    go_wp2
    go_ret
    exact ⟨(by repeat (with_reducible first | exact Chg.refl _ _ | refine chg_m ?_ _ | refine chg_g ?_ _ | refine chg_alloc ?_ _ | refine chg_drew ?_ | refine chg_drewN ?_ _ | refine chg_set ?_ _ _ _)), .inl ⟨rfl, rfl⟩⟩
  · have q0 : decide (kind < 1) = false := by simp; omega
    have q1 : decide (6 < kind) = false := by simp; omega
    have q2 : decide (node < 0) = false := by simp; omega
    have q3 : decide ((n : Int) ≤ node) = false := by simp; omega
    have q4 : decide (life < 1) = true := by simp; omega
    clear h1 h2 h3 h4 h5
    go_enter Try.func39, Try.ntmps39
    go_wp2
    refine wp_region_grows (by kernel_rfl) (by kernel_rfl) ?_
    repeat (go_big_quiet_step ((fail)))
    refine wpQuiet_nil ?_
    rintro _ ⟨gg, rfl⟩
    go_wp2
    go_ret
    exact ⟨(by repeat (with_reducible first | exact Chg.refl _ _ | refine chg_m ?_ _ | refine chg_g ?_ _ | refine chg_alloc ?_ _ | refine chg_drew ?_ | refine chg_drewN ?_ _ | refine chg_set ?_ _ _ _)), .inl ⟨rfl, rfl⟩⟩
  · have q0 : decide (kind < 1) = false := by simp; omega
    have q1 : decide (6 < kind) = false := by simp; omega
    have q2 : decide (node < 0) = false := by simp; omega
    have q3 : decide ((n : Int) ≤ node) = false := by simp; omega
    have q4 : decide (life < 1) = false := by simp; omega
    have q5 : decide (1073741824 < life) = true := by simp; omega
    clear h1 h2 h3 h4 h5 h6
    go_enter Try.func39, Try.ntmps39
    go_wp2
    refine wp_region_grows (by kernel_rfl) (by kernel_rfl) ?_
    repeat (go_big_quiet_step ((fail)))
    refine wpQuiet_nil ?_
    rintro _ ⟨gg, rfl⟩
    go_wp2
    go_ret
    exact ⟨(by repeat (with_reducible first | exact Chg.refl _ _ | refine chg_m ?_ _ | refine chg_g ?_ _ | refine chg_alloc ?_ _ | refine chg_drew ?_ | refine chg_drewN ?_ _ | refine chg_set ?_ _ _ _)), .inl ⟨rfl, rfl⟩⟩
  · have q0 : decide (kind < 1) = false := by simp; omega
    have q1 : decide (6 < kind) = false := by simp; omega
    have q2 : decide (node < 0) = false := by simp; omega
    have q3 : decide ((n : Int) ≤ node) = false := by simp; omega
    have q4 : decide (life < 1) = false := by simp; omega
    have q5 : decide (1073741824 < life) = false := by simp; omega
    have hbare := fun W => bare_any kind node life round tag of dur ha hb hc hd ua ub uc ud h1 h2 W
    simp only [decide_eq_false h7] at hbare
    clear h7
    clear h1 h2 h3 h4 h5 h6
    go_enter Try.func39, Try.ntmps39
    go_wp2
    refine wp_region_grows (by kernel_rfl) (by kernel_rfl) ?_
    repeat (go_big_quiet_step ((go_at_call 44; exact grows_of (hbare _))))
    refine wpQuiet_nil ?_
    rintro _ ⟨gg, rfl⟩
    go_wp2
    go_ret
    exact ⟨(by repeat (with_reducible first | exact Chg.refl _ _ | refine chg_m ?_ _ | refine chg_g ?_ _ | refine chg_alloc ?_ _ | refine chg_drew ?_ | refine chg_drewN ?_ _ | refine chg_set ?_ _ _ _)), .inl ⟨rfl, rfl⟩⟩
end Go.Proofs.Yteemkceceaabkaa
