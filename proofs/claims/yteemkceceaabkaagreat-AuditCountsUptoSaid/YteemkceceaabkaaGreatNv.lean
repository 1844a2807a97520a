/- Notices: Valid, Beats, the reference's Valid, at suspicions. -/
import Derived.Test.YteemkceceaabkaaGreatA
namespace Go.Ear
open Go.RowKit
abbrev nv (a b c : Int) : Value := .agg #[.int .i64 a, .int .i64 b, .int .i64 c]
/-- Is it a suspicion of one of n nodes? -/
def Sus (n of tag : Int) : Prop := 0 ≤ of ∧ of < n ∧ 0 ≤ tag ∧ tag ≤ 1048576
instance (n of tag : Int) : Decidable (Sus n of tag) := by unfold Sus; infer_instance
end Go.Ear
namespace Go.Proofs.YteemkceceaabkaaGreat
open Go.RowKit Go.Ear
set_option maxHeartbeats 1000000
set_option maxRecDepth 40000
set_option linter.unusedSimpArgs false
set_option linter.unusedVariables false

theorem isTag_any (t : Int) (w : World) : Calls Tryz.prog 99 #[.int .i64 t] w fun e w' => e = .returned (.bool (decide (0 ≤ t ∧ t ≤ 1048576))) ∧ w' = w := by
  rcases (show t < 0 ∨ (0 ≤ t ∧ 1048576 < t) ∨ (0 ≤ t ∧ t ≤ 1048576) by omega) with h | ⟨h0, h1⟩ | ⟨h0, h1⟩
  · have hd : decide (0 ≤ t ∧ t ≤ 1048576) = false := decide_eq_false (by omega)
    rw [hd]
    have x1 : decide (0 ≤ t) = false := decide_eq_false (by omega)
    clear hd h
    go_enter Tryz.func99, Tryz.ntmps99
    go_wp2
    go_ret
    exact ⟨rfl, rfl⟩
  · have hd : decide (0 ≤ t ∧ t ≤ 1048576) = false := decide_eq_false (by omega)
    rw [hd]
    have x0 : decide (0 ≤ t) = true := decide_eq_true h0
    have x1 : decide (t ≤ 1048576) = false := decide_eq_false (by omega)
    clear hd h0 h1
    go_enter Tryz.func99, Tryz.ntmps99
    go_wp2
    go_ret
    exact ⟨rfl, rfl⟩
  · have hd : decide (0 ≤ t ∧ t ≤ 1048576) = true := decide_eq_true (by omega)
    rw [hd]
    have x0 : decide (0 ≤ t) = true := decide_eq_true h0
    have x1 : decide (t ≤ 1048576) = true := decide_eq_true h1
    clear hd h0 h1
    go_enter Tryz.func99, Tryz.ntmps99
    go_wp2
    go_ret
    exact ⟨rfl, rfl⟩
theorem isKind_two (w : World) : Calls Tryz.prog 100 #[.int .i64 2] w fun e w' => e = .returned (.bool true) ∧ w' = w := by
  go_enter Tryz.func100, Tryz.ntmps100
  go_wp2
  go_ret
  exact ⟨rfl, rfl⟩
theorem valid_any (n of tag : Int) (w : World) (h1 : 1 ≤ n) (h2 : n ≤ 100) : Calls Tryz.prog 25 #[.int .i64 n, nv of tag 2] w (Gr (.bool (decide (Sus n of tag))) w) := by
  have ht := fun W => isTag_any tag W
  have hk := fun W => isKind_two W
  have x0 : decide ((1 : Int) ≤ n) = true := decide_eq_true h1
  have x1 : decide (n ≤ 100) = true := decide_eq_true h2
  rcases (show of < 0 ∨ (0 ≤ of ∧ n ≤ of) ∨ ((0 ≤ of ∧ of < n) ∧ tag < 0) ∨ ((0 ≤ of ∧ of < n) ∧ 0 ≤ tag ∧ 1048576 < tag) ∨ ((0 ≤ of ∧ of < n) ∧ 0 ≤ tag ∧ tag ≤ 1048576) by omega) with h | ⟨h, h'⟩ | ⟨⟨h, h'⟩, g⟩ | ⟨⟨h, h'⟩, g, g'⟩ | ⟨⟨h, h'⟩, g, g'⟩
  · have hd : decide (Sus n of tag) = false := decide_eq_false (by unfold Sus; omega)
    rw [hd]
    clear hd
    have x2 : decide ((0 : Int) ≤ of) = false := decide_eq_false (by omega)
    clear h h1 h2
    go_enter Tryz.func25, Tryz.ntmps25
    go_wp2
    go_ret
    exact gr_mk rfl (by repeat (with_reducible first | exact Chg.refl _ _ | refine chg_m ?_ _ | refine chg_g ?_ _ | refine chg_alloc ?_ _ | refine chg_drew ?_ | refine chg_drewN ?_ _ | refine chg_set ?_ _ _ _))
  · have hd : decide (Sus n of tag) = false := decide_eq_false (by unfold Sus; omega)
    rw [hd]
    clear hd
    have x2 : decide ((0 : Int) ≤ of) = true := decide_eq_true (by omega)
    have x3 : decide (of < n) = false := decide_eq_false (by omega)
    clear h h' h1 h2
    go_enter Tryz.func25, Tryz.ntmps25
    go_wp2
    go_ret
    exact gr_mk rfl (by repeat (with_reducible first | exact Chg.refl _ _ | refine chg_m ?_ _ | refine chg_g ?_ _ | refine chg_alloc ?_ _ | refine chg_drew ?_ | refine chg_drewN ?_ _ | refine chg_set ?_ _ _ _))
  · have hd : decide (Sus n of tag) = false := decide_eq_false (by unfold Sus; omega)
    rw [hd]
    clear hd
    have x2 : decide ((0 : Int) ≤ of) = true := decide_eq_true (by omega)
    have x3 : decide (of < n) = true := decide_eq_true (by omega)
    have x4 : decide ((0 : Int) ≤ tag) = false := decide_eq_false (by omega)
    have x6 : decide (0 ≤ tag ∧ tag ≤ 1048576) = false := decide_eq_false (by omega)
    simp only [x6] at ht
    clear h h' g h1 h2
    go_enter Tryz.func25, Tryz.ntmps25
    go_wp2_with (first | (go_at_call 99; refine (ht _).mono ?_; rintro e w' ⟨rfl, hw⟩; have hw := hw.symm; subst hw) | (go_at_call 100; refine (hk _).mono ?_; rintro e w' ⟨rfl, hw⟩; have hw := hw.symm; subst hw))
    go_ret
    exact gr_mk rfl (by repeat (with_reducible first | exact Chg.refl _ _ | refine chg_m ?_ _ | refine chg_g ?_ _ | refine chg_alloc ?_ _ | refine chg_drew ?_ | refine chg_drewN ?_ _ | refine chg_set ?_ _ _ _))
  · have hd : decide (Sus n of tag) = false := decide_eq_false (by unfold Sus; omega)
    rw [hd]
    clear hd
    have x2 : decide ((0 : Int) ≤ of) = true := decide_eq_true (by omega)
    have x3 : decide (of < n) = true := decide_eq_true (by omega)
    have x4 : decide ((0 : Int) ≤ tag) = true := decide_eq_true (by omega)
    have x5 : decide (tag ≤ 1048576) = false := decide_eq_false (by omega)
    have x6 : decide (0 ≤ tag ∧ tag ≤ 1048576) = false := decide_eq_false (by omega)
    simp only [x6] at ht
    clear h h' g g' h1 h2
    go_enter Tryz.func25, Tryz.ntmps25
    go_wp2_with (first | (go_at_call 99; refine (ht _).mono ?_; rintro e w' ⟨rfl, hw⟩; have hw := hw.symm; subst hw) | (go_at_call 100; refine (hk _).mono ?_; rintro e w' ⟨rfl, hw⟩; have hw := hw.symm; subst hw))
    go_ret
    exact gr_mk rfl (by repeat (with_reducible first | exact Chg.refl _ _ | refine chg_m ?_ _ | refine chg_g ?_ _ | refine chg_alloc ?_ _ | refine chg_drew ?_ | refine chg_drewN ?_ _ | refine chg_set ?_ _ _ _))
  · have hd : decide (Sus n of tag) = true := decide_eq_true (by unfold Sus; omega)
    rw [hd]
    clear hd
    have x2 : decide ((0 : Int) ≤ of) = true := decide_eq_true (by omega)
    have x3 : decide (of < n) = true := decide_eq_true (by omega)
    have x4 : decide ((0 : Int) ≤ tag) = true := decide_eq_true (by omega)
    have x5 : decide (tag ≤ 1048576) = true := decide_eq_true (by omega)
    have x6 : decide (0 ≤ tag ∧ tag ≤ 1048576) = true := decide_eq_true (by omega)
    simp only [x6] at ht
    clear h h' g g' h1 h2
    go_enter Tryz.func25, Tryz.ntmps25
    go_wp2_with (first | (go_at_call 99; refine (ht _).mono ?_; rintro e w' ⟨rfl, hw⟩; have hw := hw.symm; subst hw) | (go_at_call 100; refine (hk _).mono ?_; rintro e w' ⟨rfl, hw⟩; have hw := hw.symm; subst hw))
    go_ret
    exact gr_mk rfl (by repeat (with_reducible first | exact Chg.refl _ _ | refine chg_m ?_ _ | refine chg_g ?_ _ | refine chg_alloc ?_ _ | refine chg_drew ?_ | refine chg_drewN ?_ _ | refine chg_set ?_ _ _ _))
theorem validR_any (n of tag : Int) (w : World) (h1 : 1 ≤ n) (h2 : n ≤ 100) : Calls Tryz.prog 27 #[.int .i64 n, nv of tag 2] w (Gr (.bool (decide (Sus n of tag))) w) := by
  have x0 : decide ((1 : Int) ≤ n) = true := decide_eq_true h1
  have x1 : decide (n ≤ 100) = true := decide_eq_true h2
  rcases (show of < 0 ∨ (0 ≤ of ∧ n ≤ of) ∨ ((0 ≤ of ∧ of < n) ∧ tag < 0) ∨ ((0 ≤ of ∧ of < n) ∧ 0 ≤ tag ∧ 1048576 < tag) ∨ ((0 ≤ of ∧ of < n) ∧ 0 ≤ tag ∧ tag ≤ 1048576) by omega) with h | ⟨h, h'⟩ | ⟨⟨h, h'⟩, g⟩ | ⟨⟨h, h'⟩, g, g'⟩ | ⟨⟨h, h'⟩, g, g'⟩
  · have hd : decide (Sus n of tag) = false := decide_eq_false (by unfold Sus; omega)
    rw [hd]
    clear hd
    have x2 : decide ((0 : Int) ≤ of) = false := decide_eq_false (by omega)
    clear h h1 h2
    go_enter Tryz.func27, Tryz.ntmps27
    go_wp2
    go_ret
    exact gr_mk rfl (by repeat (with_reducible first | exact Chg.refl _ _ | refine chg_m ?_ _ | refine chg_g ?_ _ | refine chg_alloc ?_ _ | refine chg_drew ?_ | refine chg_drewN ?_ _ | refine chg_set ?_ _ _ _))
  · have hd : decide (Sus n of tag) = false := decide_eq_false (by unfold Sus; omega)
    rw [hd]
    clear hd
    have x2 : decide ((0 : Int) ≤ of) = true := decide_eq_true (by omega)
    have x3 : decide (of < n) = false := decide_eq_false (by omega)
    clear h h' h1 h2
    go_enter Tryz.func27, Tryz.ntmps27
    go_wp2
    go_ret
    exact gr_mk rfl (by repeat (with_reducible first | exact Chg.refl _ _ | refine chg_m ?_ _ | refine chg_g ?_ _ | refine chg_alloc ?_ _ | refine chg_drew ?_ | refine chg_drewN ?_ _ | refine chg_set ?_ _ _ _))
  · have hd : decide (Sus n of tag) = false := decide_eq_false (by unfold Sus; omega)
    rw [hd]
    clear hd
    have x2 : decide ((0 : Int) ≤ of) = true := decide_eq_true (by omega)
    have x3 : decide (of < n) = true := decide_eq_true (by omega)
    have x4 : decide ((0 : Int) ≤ tag) = false := decide_eq_false (by omega)
    clear h h' g h1 h2
    go_enter Tryz.func27, Tryz.ntmps27
    go_wp2
    go_ret
    exact gr_mk rfl (by repeat (with_reducible first | exact Chg.refl _ _ | refine chg_m ?_ _ | refine chg_g ?_ _ | refine chg_alloc ?_ _ | refine chg_drew ?_ | refine chg_drewN ?_ _ | refine chg_set ?_ _ _ _))
  · have hd : decide (Sus n of tag) = false := decide_eq_false (by unfold Sus; omega)
    rw [hd]
    clear hd
    have x2 : decide ((0 : Int) ≤ of) = true := decide_eq_true (by omega)
    have x3 : decide (of < n) = true := decide_eq_true (by omega)
    have x4 : decide ((0 : Int) ≤ tag) = true := decide_eq_true (by omega)
    have x5 : decide (tag ≤ 1048576) = false := decide_eq_false (by omega)
    clear h h' g g' h1 h2
    go_enter Tryz.func27, Tryz.ntmps27
    go_wp2
    go_ret
    exact gr_mk rfl (by repeat (with_reducible first | exact Chg.refl _ _ | refine chg_m ?_ _ | refine chg_g ?_ _ | refine chg_alloc ?_ _ | refine chg_drew ?_ | refine chg_drewN ?_ _ | refine chg_set ?_ _ _ _))
  · have hd : decide (Sus n of tag) = true := decide_eq_true (by unfold Sus; omega)
    rw [hd]
    clear hd
    have x2 : decide ((0 : Int) ≤ of) = true := decide_eq_true (by omega)
    have x3 : decide (of < n) = true := decide_eq_true (by omega)
    have x4 : decide ((0 : Int) ≤ tag) = true := decide_eq_true (by omega)
    have x5 : decide (tag ≤ 1048576) = true := decide_eq_true (by omega)
    clear h h' g g' h1 h2
    go_enter Tryz.func27, Tryz.ntmps27
    go_wp2
    go_ret
    exact gr_mk rfl (by repeat (with_reducible first | exact Chg.refl _ _ | refine chg_m ?_ _ | refine chg_g ?_ _ | refine chg_alloc ?_ _ | refine chg_drew ?_ | refine chg_drewN ?_ _ | refine chg_set ?_ _ _ _))
theorem rank_any (of t : Int) (w : World) (h0 : 0 ≤ t) (h1 : t ≤ 1048576) : Calls Tryz.prog 101 #[nv of t 2] w (Gr (.int .i64 (2 * t + 1)) w) := by
  have ht := fun W => isTag_any t W
  simp only [show 0 ≤ t ∧ t ≤ 1048576 from ⟨h0, h1⟩, and_self, decide_true] at ht
  have s1 : IntKind.i64.wrap (2 * t) = 2 * t := by rw [IntKind.wrap_i64]; omega
  have s2 : IntKind.i64.wrap (2 * t + 1) = 2 * t + 1 := by rw [IntKind.wrap_i64]; omega
  clear h0 h1
  go_enter Tryz.func101, Tryz.ntmps101
  go_wp2_with (go_at_call 99; refine (ht _).mono ?_; rintro e w' ⟨rfl, hw⟩; have hw := hw.symm; subst hw)
  go_ret
  exact gr_mk rfl (by repeat (with_reducible first | exact Chg.refl _ _ | refine chg_m ?_ _ | refine chg_g ?_ _ | refine chg_alloc ?_ _ | refine chg_drew ?_ | refine chg_drewN ?_ _ | refine chg_set ?_ _ _ _))
/-- A suspicion's rank. -/
def rk (t : Int) : Int := if 0 ≤ t ∧ t ≤ 1048576 then 2 * t + 1 else -1
theorem rank_all (of t : Int) (w : World) : Calls Tryz.prog 101 #[nv of t 2] w (Gr (.int .i64 (rk t)) w) := by
  by_cases h : 0 ≤ t ∧ t ≤ 1048576
  · have := rank_any of t w h.1 h.2
    rw [rk, if_pos h]
    exact this
  · have hr : rk t = -1 := by rw [rk, if_neg h]
    rw [hr]
    have ht := fun W => isTag_any t W
    simp only [h, decide_false] at ht
    clear h hr
    go_enter Tryz.func101, Tryz.ntmps101
    go_wp2_with (go_at_call 99; refine (ht _).mono ?_; rintro e w' ⟨rfl, hw⟩; have hw := hw.symm; subst hw)
    go_ret
    exact gr_mk rfl (by repeat (with_reducible first | exact Chg.refl _ _ | refine chg_m ?_ _ | refine chg_g ?_ _ | refine chg_alloc ?_ _ | refine chg_drew ?_ | refine chg_drewN ?_ _ | refine chg_set ?_ _ _ _))
theorem beats_any (i a b : Int) (w : World) (ha : 0 ≤ a) (ha' : a ≤ 1048576) (hb : 0 ≤ b) (hb' : b ≤ 1048576) : Calls Tryz.prog 26 #[nv i a 2, nv i b 2] w (Gr (.bool (decide (b < a))) w) := by
  have ea : rk a = 2 * a + 1 := by rw [rk, if_pos ⟨ha, ha'⟩]
  have eb : rk b = 2 * b + 1 := by rw [rk, if_pos ⟨hb, hb'⟩]
  have x1 : decide ((0 : Int) ≤ rk b) = true := decide_eq_true (by omega)
  have x2 : ((i : Int) == i) = true := by simp
  have x3 : decide (rk b < rk a) = decide (b < a) := decide_eq_decide.2 (by omega)
  generalize decide (b < a) = r at x3 ⊢
  clear ha ha' hb hb' ea eb
  go_enter Tryz.func26, Tryz.ntmps26
  go_wp2_with fail
  refine wp_region_grows (by kernel_rfl) (by kernel_rfl) ?_
  repeat (go_big_quiet_step ((go_at_call 101; exact grows_of (rank_all _ _ _))))
  refine wpQuiet_nil ?_
  rintro _ ⟨g, rfl⟩
  go_wp2_with fail
  go_ret
  exact gr_mk rfl (by repeat (with_reducible first | exact Chg.refl _ _ | refine chg_m ?_ _ | refine chg_g ?_ _ | refine chg_alloc ?_ _ | refine chg_drew ?_ | refine chg_drewN ?_ _ | refine chg_set ?_ _ _ _))
end Go.Proofs.YteemkceceaabkaaGreat
