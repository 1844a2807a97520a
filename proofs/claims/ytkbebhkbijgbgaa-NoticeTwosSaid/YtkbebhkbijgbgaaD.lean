/- The walks of the laws NoticeFresh, NoticeOnes, NoticeTwos, NoticeReplies, NoticeOrder. -/
import Derived.Test.YtkbebhkbijgbgaaC
namespace Go.Proofs.Ytkbebhkbijgbgaa
open Go.RowKit Go.Ear
set_option maxHeartbeats 2000000

theorem fresh_facts (o t k : Int) : beatsF o 0 1 o t k = false ∧
    (rankF t k < 0 ∨ (0 ≤ rankF t k ∧ t = 0 ∧ k = 1) ∨ (0 ≤ rankF t k ∧ ¬ (t = 0 ∧ k = 1) ∧ beatsF o t k o 0 1 = true)) := by
  have h0 : rankF 0 1 = 0 := by decide
  simp only [beatsF, h0]
  unfold rankF
  cases ht : isTagF t <;> cases h1 : (k == 1) <;> cases h2 : (k == 2) <;> simp_all [isTagF] <;> omega

theorem law_fresh (o t k : Int) (w : World) : Calls Try.prog 3 #[nt o t k] w (Gr (.bool true) w) := by
  have h0 : rankF 0 1 = 0 := by decide
  obtain ⟨f1, f2⟩ := fresh_facts o t k
  rcases f2 with h | ⟨h, rfl, rfl⟩ | ⟨h, hne, hb⟩
  all_goals
    go_enter Try.func3, Try.ntmps3
    go_wp2_with (first
      | (go_at_call 9; refine (fresh_any _ _).mono ?_; rintro e w' ⟨rfl, g, rfl⟩)
      | (go_at_call 10; refine (alive_any _).mono ?_; rintro e w' ⟨rfl, g, rfl⟩)
      | (go_at_call 11; refine (rank_any _ _ _ _).mono ?_; rintro e w' ⟨rfl, g, rfl⟩)
      | (go_at_call 12; refine (beats_any _ _ _ _ _ _ _).mono ?_; rintro e w' ⟨rfl, g, rfl⟩))
  all_goals
    go_light
    first
      | (exfalso; simp_all; done)
      | (exfalso; omega)
      | (go_ret
         refine gr_mk (by simp_all) ?_
         repeat (first | exact Below.refl _ _ | refine grow_g ?_ _ | refine grow_alloc ?_ _ | refine grow_drew ?_ | refine grow_set ?_ (by simp <;> omega) _))

theorem law_ones (n o t k : Int) (w : World) : Calls Try.prog 4 #[i64 n, nt o t k] w (Gr (.bool true) w) := by
  go_enter Try.func4, Try.ntmps4
  go_wp2_with (first
    | (go_at_call 13; refine (reply_any _ _ _ _).mono ?_; rintro e w' ⟨rfl, g, rfl⟩)
    | (go_at_call 14; refine (rreply_any _ _ _ _).mono ?_; rintro e w' ⟨rfl, g, rfl⟩))
  refine wp_region_grows (by kernel_rfl) (by kernel_rfl) ?_
  repeat (go_big_quiet_step ((first
    | (go_at_call 10; exact grows_of (alive_any _))
    | (go_at_call 15; exact grows_of (valid_any _ _ _ _ _))
    | (go_at_call 16; exact grows_of (rvalid_any _ _ _ _ _))
    | (go_at_call 11; exact grows_of (rank_any _ _ _ _))
    | (go_at_call 17; exact grows_of (rrank_any _ _ _ _))
    | (go_at_call 9; exact grows_of (fresh_any _ _))
    | (go_at_call 18; exact grows_of (rfresh_any _ _)))))
  refine wpQuiet_nil ?_
  rintro _ ⟨g, rfl⟩
  go_wp2_with fail
  go_ret
  refine gr_mk (by simp) ?_
  repeat (first | exact Below.refl _ _ | refine grow_g ?_ _ | refine grow_alloc ?_ _ | refine grow_drew ?_ | refine grow_set ?_ (by simp <;> omega) _)

theorem law_twos (o t k o2 t2 k2 : Int) (w : World) : Calls Try.prog 8 #[nt o t k, nt o2 t2 k2] w (Gr (.bool true) w) := by
  go_enter Try.func8, Try.ntmps8
  go_wp2_with (first
    | (go_at_call 23; refine (max_any _ _ _ _ _ _ _).mono ?_; rintro e w' ⟨rfl, g, rfl⟩)
    | (go_at_call 24; refine (rmax_any _ _ _ _ _ _ _).mono ?_; rintro e w' ⟨rfl, g, rfl⟩))
  refine wp_region_grows (by kernel_rfl) (by kernel_rfl) ?_
  repeat (go_big_quiet_step ((first
    | (go_at_call 10; exact grows_of (alive_any _))
    | (go_at_call 12; exact grows_of (beats_any _ _ _ _ _ _ _))
    | (go_at_call 25; exact grows_of (rbeats_any _ _ _ _ _ _ _)))))
  refine wpQuiet_nil ?_
  rintro _ ⟨g, rfl⟩
  go_wp2_with fail
  go_ret
  refine gr_mk (by simp) ?_
  repeat (first | exact Below.refl _ _ | refine grow_g ?_ _ | refine grow_alloc ?_ _ | refine grow_drew ?_ | refine grow_set ?_ (by simp <;> omega) _)

end Go.Proofs.Ytkbebhkbijgbgaa
