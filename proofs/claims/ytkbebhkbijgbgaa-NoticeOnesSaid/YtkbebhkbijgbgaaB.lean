/- Contracts of Reply and Max of package notice and of its reference. -/
import Derived.Test.YtkbebhkbijgbgaaA
import Derived.Deep.Light
namespace Go.Proofs.Ytkbebhkbijgbgaa
open Go.RowKit Go.Ear
set_option maxHeartbeats 2000000

/-- What Reply answers. -/
def replyF (o t k : Int) : Int × Int × Int × Int :=
  if decide (rankF t k < 0) || k != 2 then (0, 0, 0, 50) else if t == 1048576 then (0, 0, 0, 120) else (o, t + 1, 1, 0)
abbrev ne (x : Int × Int × Int × Int) : Value := .tuple #[nt x.1 x.2.1 x.2.2.1, i64 x.2.2.2]
theorem rank_bd {t k : Int} : rankF t k < 0 ∨ (0 ≤ t ∧ t ≤ 1048576) := by unfold rankF; cases h : isTagF t <;> simp [isTagF] at h ⊢; omega
theorem reply_any (o t k : Int) (w : World) : Calls Try.prog 13 #[nt o t k] w (Gr (ne (replyF o t k)) w) := by
  have hb := @rank_bd t k
  cases h1 : decide (rankF t k < 0) <;> cases h2 : (k != 2) <;> cases h3 : (t == 1048576)
  all_goals
    have hr : replyF o t k = if decide (rankF t k < 0) || k != 2 then (0, 0, 0, 50) else if t == 1048576 then (0, 0, 0, 120) else (o, t + 1, 1, 0) := rfl
    rw [h1, h2, h3] at hr
    have HR := Lib.hid hr
    clear hr
    simp only [decide_eq_true_eq, decide_eq_false_iff_not] at h1
    go_enter Try.func13, Try.ntmps13
    go_wp2_with (go_at_call 11; refine (rank_any _ _ _ _).mono ?_; rintro e w' ⟨rfl, g, rfl⟩)
    refine bodyPost_ret (v := ne (replyF o t k)) ?_ rfl (gr_mk rfl ?_)
    · rw [HR.out]; simp [results, Try.results13, go_sem]
    · repeat (first | exact Below.refl _ _ | refine grow_g ?_ _ | refine grow_alloc ?_ _ | refine grow_drew ?_ | refine grow_set ?_ (by simp) _)

theorem rreply_any (o t k : Int) (w : World) : Calls Try.prog 14 #[nt o t k] w (Gr (ne (replyF o t k)) w) := by
  have hb := @rank_bd t k
  cases h1 : decide (rankF t k < 0) <;> cases h2 : (k != 2) <;> cases h3 : (t == 1048576)
  all_goals
    have hr : replyF o t k = if decide (rankF t k < 0) || k != 2 then (0, 0, 0, 50) else if t == 1048576 then (0, 0, 0, 120) else (o, t + 1, 1, 0) := rfl
    rw [h1, h2, h3] at hr
    have HR := Lib.hid hr
    clear hr
    simp only [decide_eq_true_eq, decide_eq_false_iff_not] at h1
    go_enter Try.func14, Try.ntmps14
    go_wp2_with (go_at_call 17; refine (rrank_any _ _ _ _).mono ?_; rintro e w' ⟨rfl, g, rfl⟩)
    refine bodyPost_ret (v := ne (replyF o t k)) ?_ rfl (gr_mk rfl ?_)
    · rw [HR.out]; simp [results, Try.results14, go_sem]
    · repeat (first | exact Below.refl _ _ | refine grow_g ?_ _ | refine grow_alloc ?_ _ | refine grow_drew ?_ | refine grow_set ?_ (by simp) _)

/-- What Max answers. -/
def maxF (o1 t1 k1 o2 t2 k2 : Int) : Int × Int × Int × Int :=
  if o1 != o2 || decide (rankF t1 k1 < 0) || decide (rankF t2 k2 < 0) then (0, 0, 0, 50) else if beatsF o2 t2 k2 o1 t1 k1 then (o2, t2, k2, 0) else (o1, t1, k1, 0)

theorem max_ways (o1 t1 k1 o2 t2 k2 : Int) :
    ((o1 != o2) = true ∧ maxF o1 t1 k1 o2 t2 k2 = (0, 0, 0, 50)) ∨
    ((o1 != o2) = false ∧ rankF t1 k1 < 0 ∧ maxF o1 t1 k1 o2 t2 k2 = (0, 0, 0, 50)) ∨
    ((o1 != o2) = false ∧ 0 ≤ rankF t1 k1 ∧ rankF t2 k2 < 0 ∧ maxF o1 t1 k1 o2 t2 k2 = (0, 0, 0, 50)) ∨
    ((o1 != o2) = false ∧ 0 ≤ rankF t1 k1 ∧ 0 ≤ rankF t2 k2 ∧ beatsF o2 t2 k2 o1 t1 k1 = true ∧ maxF o1 t1 k1 o2 t2 k2 = (o2, t2, k2, 0)) ∨
    ((o1 != o2) = false ∧ 0 ≤ rankF t1 k1 ∧ 0 ≤ rankF t2 k2 ∧ beatsF o2 t2 k2 o1 t1 k1 = false ∧ maxF o1 t1 k1 o2 t2 k2 = (o1, t1, k1, 0)) := by
  unfold maxF
  cases h1 : (o1 != o2) <;> cases h2 : decide (rankF t1 k1 < 0) <;> cases h3 : decide (rankF t2 k2 < 0) <;> cases h4 : beatsF o2 t2 k2 o1 t1 k1 <;> simp_all

theorem rmax_any (o1 t1 k1 o2 t2 k2 : Int) (w : World) : Calls Try.prog 24 #[nt o1 t1 k1, nt o2 t2 k2] w (Gr (ne (maxF o1 t1 k1 o2 t2 k2)) w) := by
  rcases max_ways o1 t1 k1 o2 t2 k2 with ⟨h1, hr⟩ | ⟨h1, h2, hr⟩ | ⟨h1, h2, h3, hr⟩ | ⟨h1, h2, h3, h4, hr⟩ | ⟨h1, h2, h3, h4, hr⟩
  all_goals
    have HR := Lib.hid hr
    clear hr
    go_enter Try.func24, Try.ntmps24
    go_wp2_with (first
      | (go_at_call 17; refine (rrank_any _ _ _ _).mono ?_; rintro e w' ⟨rfl, g, rfl⟩)
      | (go_at_call 25; refine (rbeats_any _ _ _ _ _ _ _).mono ?_; rintro e w' ⟨rfl, g, rfl⟩))
  all_goals
    go_light
    refine bodyPost_ret (v := ne (maxF o1 t1 k1 o2 t2 k2)) (by rw [HR.out]; simp [results, Try.results24, go_sem]) rfl (gr_mk rfl ?_)
    repeat (first | exact Below.refl _ _ | refine grow_g ?_ _ | refine grow_alloc ?_ _ | refine grow_drew ?_ | refine grow_set ?_ (by simp <;> omega) _)

end Go.Proofs.Ytkbebhkbijgbgaa
