/- Contracts of Max. -/
import Derived.Test.YtkbebhkbijgbgaaB
namespace Go.Proofs.Ytkbebhkbijgbgaa
open Go.RowKit Go.Ear
set_option maxHeartbeats 2000000

theorem beats_self (o t k : Int) : beatsF o t k o t k = false := by simp [beatsF]
theorem max_any (o1 t1 k1 o2 t2 k2 : Int) (w : World) : Calls Try.prog 23 #[nt o1 t1 k1, nt o2 t2 k2] w (Gr (ne (maxF o1 t1 k1 o2 t2 k2)) w) := by
  rcases max_ways o1 t1 k1 o2 t2 k2 with ⟨h1, hr⟩ | ⟨h1, h2, hr⟩ | ⟨h1, h2, h3, hr⟩ | ⟨h1, h2, h3, h4, hr⟩ | ⟨h1, h2, h3, h4, hr⟩
  all_goals
    have HR := Lib.hid hr
    clear hr
    go_enter Try.func23, Try.ntmps23
    go_wp2_with (first
      | (go_at_call 11; refine (rank_any _ _ _ _).mono ?_; rintro e w' ⟨rfl, g, rfl⟩)
      | (go_at_call 12; refine (beats_any _ _ _ _ _ _ _).mono ?_; rintro e w' ⟨rfl, g, rfl⟩))
  all_goals
    go_light
    first
      | (exfalso; simp_all [beats_self]; done)
      | (refine bodyPost_ret (v := ne (maxF o1 t1 k1 o2 t2 k2)) (by rw [HR.out]; simp [results, Try.results23, go_sem, *]) rfl (gr_mk rfl ?_)
         repeat (first | exact Below.refl _ _ | refine grow_g ?_ _ | refine grow_alloc ?_ _ | refine grow_drew ?_ | refine grow_set ?_ (by simp <;> omega) _))
end Go.Proofs.Ytkbebhkbijgbgaa
