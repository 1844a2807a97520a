/- The walk of the law NoticeOrder. -/
import Derived.Test.YtkbebhkbijgbgaaE
namespace Go.Proofs.Ytkbebhkbijgbgaa
open Go.RowKit Go.Ear
set_option maxHeartbeats 4000000
set_option maxRecDepth 100000

theorem law_order_bad1 (o ta ka ob tb kb oc tc kc : Int) (w : World) (h : rankF ta ka < 0) :
    Calls Try.prog 6 #[nt o ta ka, nt ob tb kb, nt oc tc kc] w (Gr (.bool true) w) := by
  have e := max_err (o := o) (t2 := tb) (k2 := kb) (.inl h)
  have E := Lib.hid e
  clear e
  go_enter Try.func6, Try.ntmps6
  go_wp2_with fail
  generalize hw1 : ((w.alloc (Obj.cells #[Value.int IntKind.i64 o, Value.int IntKind.i64 ta, Value.int IntKind.i64 ka] 23)).alloc (Obj.cells #[Value.int IntKind.i64 ob, Value.int IntKind.i64 tb, Value.int IntKind.i64 kb] 23)).alloc (Obj.cells #[Value.int IntKind.i64 oc, Value.int IntKind.i64 tc, Value.int IntKind.i64 kc] 23) = w1
  have HW := Lib.hid hw1
  have c0 : w1.cell? ⟨w.heap.size, 0, none⟩ = some (.int .i64 o) := by subst hw1; simp [go_sem]
  have c1 : w1.cell? ⟨w.heap.size + 1, 0, none⟩ = some (.int .i64 ob) := by subst hw1; simp [go_sem]
  have c2 : w1.cell? ⟨w.heap.size + 1 + 1, 0, none⟩ = some (.int .i64 oc) := by subst hw1; simp [go_sem]
  have f1 : w1.frozen? ⟨w.heap.size + 1, 0, none⟩ = false := by subst hw1; simp [go_sem]
  have f2 : w1.frozen? ⟨w.heap.size + 1 + 1, 0, none⟩ = false := by subst hw1; simp [go_sem]
  clear hw1
  go_region
  have hw1 := HW.out
  subst hw1
  clear c0 c1 c2 f1 f2 HW

  have e := E.out
  go_wp2_with (first
    | (go_at_call 23; refine (max_any _ _ _ _ _ _ _).mono ?_; rintro e w' ⟨rfl, g, rfl⟩)
    | (go_at_call 10; refine (alive_any _).mono ?_; rintro e w' ⟨rfl, g, rfl⟩)
    | (go_at_call 11; refine (rank_any _ _ _ _).mono ?_; rintro e w' ⟨rfl, g, rfl⟩))
  all_goals try (
    refine wp_region_grows (by kernel_rfl) (by kernel_rfl) ?_
    repeat (go_big_quiet_step (((first
        | (go_at_call 23; exact grows_of (max_any _ _ _ _ _ _ _))
        | (go_at_call 10; exact grows_of (alive_any _))
        | (go_at_call 11; exact grows_of (rank_any _ _ _ _))))))
    refine wpQuiet_nil ?_
    rintro _ ⟨g, rfl⟩
    go_wp2_with (first
      | (go_at_call 23; refine (max_any _ _ _ _ _ _ _).mono ?_; rintro e w' ⟨rfl, g, rfl⟩)
      | (go_at_call 10; refine (alive_any _).mono ?_; rintro e w' ⟨rfl, g, rfl⟩)
      | (go_at_call 11; refine (rank_any _ _ _ _).mono ?_; rintro e w' ⟨rfl, g, rfl⟩)))
  all_goals try (
    refine wp_region_grows (by kernel_rfl) (by kernel_rfl) ?_
    repeat (go_big_quiet_step (((first
        | (go_at_call 23; exact grows_of (max_any _ _ _ _ _ _ _))
        | (go_at_call 10; exact grows_of (alive_any _))
        | (go_at_call 11; exact grows_of (rank_any _ _ _ _))))))
    refine wpQuiet_nil ?_
    rintro _ ⟨g, rfl⟩
    go_wp2_with (first
      | (go_at_call 23; refine (max_any _ _ _ _ _ _ _).mono ?_; rintro e w' ⟨rfl, g, rfl⟩)
      | (go_at_call 10; refine (alive_any _).mono ?_; rintro e w' ⟨rfl, g, rfl⟩)
      | (go_at_call 11; refine (rank_any _ _ _ _).mono ?_; rintro e w' ⟨rfl, g, rfl⟩)))
  all_goals
    go_light
    first
      | (exfalso; omega)
      | (go_ret
         refine gr_mk (by simp [*]) ?_
         repeat (first | exact Below.refl _ _ | refine grow_g ?_ _ | refine grow_alloc ?_ _ | refine grow_drew ?_ | refine grow_set ?_ (by simp <;> omega) _))

theorem law_order_bad2 (o ta ka ob tb kb oc tc kc : Int) (w : World) (h : 0 ≤ rankF ta ka) (h1 : rankF tb kb < 0) :
    Calls Try.prog 6 #[nt o ta ka, nt ob tb kb, nt oc tc kc] w (Gr (.bool true) w) := by
  have e := max_err (o := o) (t1 := ta) (k1 := ka) (.inr h1)
  have E := Lib.hid e
  clear e
  go_enter Try.func6, Try.ntmps6
  go_wp2_with fail
  generalize hw1 : ((w.alloc (Obj.cells #[Value.int IntKind.i64 o, Value.int IntKind.i64 ta, Value.int IntKind.i64 ka] 23)).alloc (Obj.cells #[Value.int IntKind.i64 ob, Value.int IntKind.i64 tb, Value.int IntKind.i64 kb] 23)).alloc (Obj.cells #[Value.int IntKind.i64 oc, Value.int IntKind.i64 tc, Value.int IntKind.i64 kc] 23) = w1
  have HW := Lib.hid hw1
  have c0 : w1.cell? ⟨w.heap.size, 0, none⟩ = some (.int .i64 o) := by subst hw1; simp [go_sem]
  have c1 : w1.cell? ⟨w.heap.size + 1, 0, none⟩ = some (.int .i64 ob) := by subst hw1; simp [go_sem]
  have c2 : w1.cell? ⟨w.heap.size + 1 + 1, 0, none⟩ = some (.int .i64 oc) := by subst hw1; simp [go_sem]
  have f1 : w1.frozen? ⟨w.heap.size + 1, 0, none⟩ = false := by subst hw1; simp [go_sem]
  have f2 : w1.frozen? ⟨w.heap.size + 1 + 1, 0, none⟩ = false := by subst hw1; simp [go_sem]
  clear hw1
  go_region
  have hw1 := HW.out
  subst hw1
  clear c0 c1 c2 f1 f2 HW

  have e := E.out
  go_wp2_with (first
    | (go_at_call 23; refine (max_any _ _ _ _ _ _ _).mono ?_; rintro e w' ⟨rfl, g, rfl⟩)
    | (go_at_call 10; refine (alive_any _).mono ?_; rintro e w' ⟨rfl, g, rfl⟩)
    | (go_at_call 11; refine (rank_any _ _ _ _).mono ?_; rintro e w' ⟨rfl, g, rfl⟩))
  all_goals try (
    refine wp_region_grows (by kernel_rfl) (by kernel_rfl) ?_
    repeat (go_big_quiet_step (((first
        | (go_at_call 23; exact grows_of (max_any _ _ _ _ _ _ _))
        | (go_at_call 10; exact grows_of (alive_any _))
        | (go_at_call 11; exact grows_of (rank_any _ _ _ _))))))
    refine wpQuiet_nil ?_
    rintro _ ⟨g, rfl⟩
    go_wp2_with (first
      | (go_at_call 23; refine (max_any _ _ _ _ _ _ _).mono ?_; rintro e w' ⟨rfl, g, rfl⟩)
      | (go_at_call 10; refine (alive_any _).mono ?_; rintro e w' ⟨rfl, g, rfl⟩)
      | (go_at_call 11; refine (rank_any _ _ _ _).mono ?_; rintro e w' ⟨rfl, g, rfl⟩)))
  all_goals try (
    refine wp_region_grows (by kernel_rfl) (by kernel_rfl) ?_
    repeat (go_big_quiet_step (((first
        | (go_at_call 23; exact grows_of (max_any _ _ _ _ _ _ _))
        | (go_at_call 10; exact grows_of (alive_any _))
        | (go_at_call 11; exact grows_of (rank_any _ _ _ _))))))
    refine wpQuiet_nil ?_
    rintro _ ⟨g, rfl⟩
    go_wp2_with (first
      | (go_at_call 23; refine (max_any _ _ _ _ _ _ _).mono ?_; rintro e w' ⟨rfl, g, rfl⟩)
      | (go_at_call 10; refine (alive_any _).mono ?_; rintro e w' ⟨rfl, g, rfl⟩)
      | (go_at_call 11; refine (rank_any _ _ _ _).mono ?_; rintro e w' ⟨rfl, g, rfl⟩)))
  all_goals
    go_light
    first
      | (exfalso; omega)
      | (go_ret
         refine gr_mk (by simp [*]) ?_
         repeat (first | exact Below.refl _ _ | refine grow_g ?_ _ | refine grow_alloc ?_ _ | refine grow_drew ?_ | refine grow_set ?_ (by simp <;> omega) _))

theorem law_order_bad3 (o ta ka ob tb kb oc tc kc : Int) (w : World) (h : 0 ≤ rankF ta ka) (h1 : 0 ≤ rankF tb kb) (h2 : rankF tc kc < 0) :
    Calls Try.prog 6 #[nt o ta ka, nt ob tb kb, nt oc tc kc] w (Gr (.bool true) w) := by
  obtain ⟨x, _, _, e, _⟩ := order_facts (o := o) h h1 h
  have E := Lib.hid e
  clear e
  go_enter Try.func6, Try.ntmps6
  go_wp2_with fail
  generalize hw1 : ((w.alloc (Obj.cells #[Value.int IntKind.i64 o, Value.int IntKind.i64 ta, Value.int IntKind.i64 ka] 23)).alloc (Obj.cells #[Value.int IntKind.i64 ob, Value.int IntKind.i64 tb, Value.int IntKind.i64 kb] 23)).alloc (Obj.cells #[Value.int IntKind.i64 oc, Value.int IntKind.i64 tc, Value.int IntKind.i64 kc] 23) = w1
  have HW := Lib.hid hw1
  have c0 : w1.cell? ⟨w.heap.size, 0, none⟩ = some (.int .i64 o) := by subst hw1; simp [go_sem]
  have c1 : w1.cell? ⟨w.heap.size + 1, 0, none⟩ = some (.int .i64 ob) := by subst hw1; simp [go_sem]
  have c2 : w1.cell? ⟨w.heap.size + 1 + 1, 0, none⟩ = some (.int .i64 oc) := by subst hw1; simp [go_sem]
  have f1 : w1.frozen? ⟨w.heap.size + 1, 0, none⟩ = false := by subst hw1; simp [go_sem]
  have f2 : w1.frozen? ⟨w.heap.size + 1 + 1, 0, none⟩ = false := by subst hw1; simp [go_sem]
  clear hw1
  go_region
  have hw1 := HW.out
  subst hw1
  clear c0 c1 c2 f1 f2 HW

  have e := E.out
  go_wp2_with (first
    | (go_at_call 23; refine (max_any _ _ _ _ _ _ _).mono ?_; rintro e w' ⟨rfl, g, rfl⟩)
    | (go_at_call 10; refine (alive_any _).mono ?_; rintro e w' ⟨rfl, g, rfl⟩)
    | (go_at_call 11; refine (rank_any _ _ _ _).mono ?_; rintro e w' ⟨rfl, g, rfl⟩))
  all_goals try (
    refine wp_region_grows (by kernel_rfl) (by kernel_rfl) ?_
    repeat (go_big_quiet_step (((first
        | (go_at_call 23; exact grows_of (max_any _ _ _ _ _ _ _))
        | (go_at_call 10; exact grows_of (alive_any _))
        | (go_at_call 11; exact grows_of (rank_any _ _ _ _))))))
    refine wpQuiet_nil ?_
    rintro _ ⟨g, rfl⟩
    go_wp2_with (first
      | (go_at_call 23; refine (max_any _ _ _ _ _ _ _).mono ?_; rintro e w' ⟨rfl, g, rfl⟩)
      | (go_at_call 10; refine (alive_any _).mono ?_; rintro e w' ⟨rfl, g, rfl⟩)
      | (go_at_call 11; refine (rank_any _ _ _ _).mono ?_; rintro e w' ⟨rfl, g, rfl⟩)))
  all_goals try (
    refine wp_region_grows (by kernel_rfl) (by kernel_rfl) ?_
    repeat (go_big_quiet_step (((first
        | (go_at_call 23; exact grows_of (max_any _ _ _ _ _ _ _))
        | (go_at_call 10; exact grows_of (alive_any _))
        | (go_at_call 11; exact grows_of (rank_any _ _ _ _))))))
    refine wpQuiet_nil ?_
    rintro _ ⟨g, rfl⟩
    go_wp2_with (first
      | (go_at_call 23; refine (max_any _ _ _ _ _ _ _).mono ?_; rintro e w' ⟨rfl, g, rfl⟩)
      | (go_at_call 10; refine (alive_any _).mono ?_; rintro e w' ⟨rfl, g, rfl⟩)
      | (go_at_call 11; refine (rank_any _ _ _ _).mono ?_; rintro e w' ⟨rfl, g, rfl⟩)))
  all_goals
    go_light
    first
      | (exfalso; omega)
      | (go_ret
         refine gr_mk (by simp [*]) ?_
         repeat (first | exact Below.refl _ _ | refine grow_g ?_ _ | refine grow_alloc ?_ _ | refine grow_drew ?_ | refine grow_set ?_ (by simp <;> omega) _))

theorem law_order_good (o ta ka ob tb kb oc tc kc : Int) (w : World) (ha : 0 ≤ rankF ta ka) (hb : 0 ≤ rankF tb kb) (hc : 0 ≤ rankF tc kc) :
    Calls Try.prog 6 #[nt o ta ka, nt ob tb kb, nt oc tc kc] w (Gr (.bool true) w) := by
  obtain ⟨x, z, u, m1, m2, m3, m4, m5, m6⟩ := order_facts (o := o) ha hb hc
  rcases order_beats (o := o) ha hb hc with ⟨b1, b2, i1, i2⟩ | ⟨b1, b2, hne, b3⟩ | ⟨b1, b2, hne, b3, b4⟩ | ⟨b1, b2, hne⟩
  have i3 : ta = tb ∧ ka = kb := ⟨i1, i2⟩
  clear i1 i2
  rotate_left
  have i3 : True := trivial
  rotate_left
  have i3 : True := trivial
  rotate_left
  have i3 : True := trivial
  all_goals
    have I3 := Lib.hid i3
    have M1 := Lib.hid m1
    have M2 := Lib.hid m2
    have M3 := Lib.hid m3
    have M4 := Lib.hid m4
    have M5 := Lib.hid m5
    have M6 := Lib.hid m6
    clear m1 m2 m3 m4 m5 m6 i3
    go_enter Try.func6, Try.ntmps6
    go_wp2_with fail
    generalize hw1 : ((w.alloc (Obj.cells #[Value.int IntKind.i64 o, Value.int IntKind.i64 ta, Value.int IntKind.i64 ka] 23)).alloc (Obj.cells #[Value.int IntKind.i64 ob, Value.int IntKind.i64 tb, Value.int IntKind.i64 kb] 23)).alloc (Obj.cells #[Value.int IntKind.i64 oc, Value.int IntKind.i64 tc, Value.int IntKind.i64 kc] 23) = w1
    have HW := Lib.hid hw1
    have c0 : w1.cell? ⟨w.heap.size, 0, none⟩ = some (.int .i64 o) := by subst hw1; simp [go_sem]
    have c1 : w1.cell? ⟨w.heap.size + 1, 0, none⟩ = some (.int .i64 ob) := by subst hw1; simp [go_sem]
    have c2 : w1.cell? ⟨w.heap.size + 1 + 1, 0, none⟩ = some (.int .i64 oc) := by subst hw1; simp [go_sem]
    have f1 : w1.frozen? ⟨w.heap.size + 1, 0, none⟩ = false := by subst hw1; simp [go_sem]
    have f2 : w1.frozen? ⟨w.heap.size + 1 + 1, 0, none⟩ = false := by subst hw1; simp [go_sem]
    clear hw1
    go_region
    have hw1 := HW.out
    subst hw1
    clear c0 c1 c2 f1 f2 HW
    have m1 := M1.out
    have m2 := M2.out
    have m3 := M3.out
    have m4 := M4.out
    have m5 := M5.out
    have m6 := M6.out
    have i3 := I3.out
    clear M1 M2 M3 M4 M5 M6 I3
    try (obtain ⟨rfl, rfl⟩ := i3)
    try clear i3
    go_wp2_with (first
      | (go_at_call 23; refine (max_any _ _ _ _ _ _ _).mono ?_; rintro e w' ⟨rfl, g, rfl⟩)
      | (go_at_call 10; refine (alive_any _).mono ?_; rintro e w' ⟨rfl, g, rfl⟩)
      | (go_at_call 11; refine (rank_any _ _ _ _).mono ?_; rintro e w' ⟨rfl, g, rfl⟩)
      | (go_at_call 12; refine (beats_any _ _ _ _ _ _ _).mono ?_; rintro e w' ⟨rfl, g, rfl⟩))
  all_goals try (
    refine wp_region_grows (by kernel_rfl) (by kernel_rfl) ?_
    repeat (go_big_quiet_step (((first
        | (go_at_call 23; exact grows_of (max_any _ _ _ _ _ _ _))
        | (go_at_call 10; exact grows_of (alive_any _))
        | (go_at_call 11; exact grows_of (rank_any _ _ _ _))
        | (go_at_call 12; exact grows_of (beats_any _ _ _ _ _ _ _))))))
    refine wpQuiet_nil ?_
    rintro _ ⟨g, rfl⟩
    go_wp2_with (first
      | (go_at_call 23; refine (max_any _ _ _ _ _ _ _).mono ?_; rintro e w' ⟨rfl, g, rfl⟩)
      | (go_at_call 10; refine (alive_any _).mono ?_; rintro e w' ⟨rfl, g, rfl⟩)
      | (go_at_call 11; refine (rank_any _ _ _ _).mono ?_; rintro e w' ⟨rfl, g, rfl⟩)
      | (go_at_call 12; refine (beats_any _ _ _ _ _ _ _).mono ?_; rintro e w' ⟨rfl, g, rfl⟩)))
  all_goals try (
    refine wp_region_grows (by kernel_rfl) (by kernel_rfl) ?_
    repeat (go_big_quiet_step (((first
        | (go_at_call 23; exact grows_of (max_any _ _ _ _ _ _ _))
        | (go_at_call 10; exact grows_of (alive_any _))
        | (go_at_call 11; exact grows_of (rank_any _ _ _ _))
        | (go_at_call 12; exact grows_of (beats_any _ _ _ _ _ _ _))))))
    refine wpQuiet_nil ?_
    rintro _ ⟨g, rfl⟩
    go_wp2_with (first
      | (go_at_call 23; refine (max_any _ _ _ _ _ _ _).mono ?_; rintro e w' ⟨rfl, g, rfl⟩)
      | (go_at_call 10; refine (alive_any _).mono ?_; rintro e w' ⟨rfl, g, rfl⟩)
      | (go_at_call 11; refine (rank_any _ _ _ _).mono ?_; rintro e w' ⟨rfl, g, rfl⟩)
      | (go_at_call 12; refine (beats_any _ _ _ _ _ _ _).mono ?_; rintro e w' ⟨rfl, g, rfl⟩)))
  all_goals try (
    refine wp_region_grows (by kernel_rfl) (by kernel_rfl) ?_
    repeat (go_big_quiet_step (((first
        | (go_at_call 23; exact grows_of (max_any _ _ _ _ _ _ _))
        | (go_at_call 10; exact grows_of (alive_any _))
        | (go_at_call 11; exact grows_of (rank_any _ _ _ _))
        | (go_at_call 12; exact grows_of (beats_any _ _ _ _ _ _ _))))))
    refine wpQuiet_nil ?_
    rintro _ ⟨g, rfl⟩
    go_wp2_with (first
      | (go_at_call 23; refine (max_any _ _ _ _ _ _ _).mono ?_; rintro e w' ⟨rfl, g, rfl⟩)
      | (go_at_call 10; refine (alive_any _).mono ?_; rintro e w' ⟨rfl, g, rfl⟩)
      | (go_at_call 11; refine (rank_any _ _ _ _).mono ?_; rintro e w' ⟨rfl, g, rfl⟩)
      | (go_at_call 12; refine (beats_any _ _ _ _ _ _ _).mono ?_; rintro e w' ⟨rfl, g, rfl⟩)))
  all_goals
    go_light
    first
      | (exfalso; omega)
      | (go_ret
         refine gr_mk (by simp_all) ?_
         repeat (first | exact Below.refl _ _ | refine grow_g ?_ _ | refine grow_alloc ?_ _ | refine grow_drew ?_ | refine grow_set ?_ (by simp <;> omega) _))
      | (exfalso; simp_all; done)

theorem law_order (o ta ka ob tb kb oc tc kc : Int) (w : World) : Calls Try.prog 6 #[nt o ta ka, nt ob tb kb, nt oc tc kc] w (Gr (.bool true) w) := by
  by_cases ha : 0 ≤ rankF ta ka
  · by_cases hb : 0 ≤ rankF tb kb
    · by_cases hc : 0 ≤ rankF tc kc
      · exact law_order_good o ta ka ob tb kb oc tc kc w ha hb hc
      · exact law_order_bad3 o ta ka ob tb kb oc tc kc w ha hb (by omega)
    · exact law_order_bad2 o ta ka ob tb kb oc tc kc w ha (by omega)
  · exact law_order_bad1 o ta ka ob tb kb oc tc kc w (by omega)
end Go.Proofs.Ytkbebhkbijgbgaa
