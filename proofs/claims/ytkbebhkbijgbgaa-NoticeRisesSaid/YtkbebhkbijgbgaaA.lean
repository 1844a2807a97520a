/- Contracts of the small functions of package notice and of its reference. -/
import Derived.Test.YtkbebhkbijgbgaaRows
import Derived.Test.YtkbebhkbijgbgaaK
namespace Go.Proofs.Ytkbebhkbijgbgaa
open Go.RowKit Go.Ear
set_option maxHeartbeats 2000000

def isTagF (t : Int) : Bool := decide (0 ≤ t) && decide (t ≤ 1048576)
def isKindF (t : Int) : Bool := t == 1 || t == 2
def rankF (t k : Int) : Int := if isTagF t then (if k == 1 then 2 * t else if k == 2 then 2 * t + 1 else -1) else -1
abbrev nt (o t k : Int) : Value := .agg #[.int .i64 o, .int .i64 t, .int .i64 k]
abbrev i64 (n : Int) : Value := .int .i64 n

theorem isTag_any (t : Int) (w : World) : Calls Try.prog 26 #[i64 t] w (Gr (.bool (isTagF t)) w) := by
  go_enter Try.func26, Try.ntmps26
  go_wp2
  all_goals
    go_ret
    exact gr_same (by simp [isTagF, *] <;> omega)
theorem isKind_any (t : Int) (w : World) : Calls Try.prog 27 #[i64 t] w (Gr (.bool (isKindF t)) w) := by
  go_enter Try.func27, Try.ntmps27
  go_wp2
  all_goals
    go_ret
    exact gr_same (by simp [isKindF, *])

theorem rank_any (o t k : Int) (w : World) : Calls Try.prog 11 #[nt o t k] w (Gr (i64 (rankF t k)) w) := by
  by_cases ht : isTagF t = true
  · have h1 : 0 ≤ t ∧ t ≤ 1048576 := by simpa [isTagF] using ht
    obtain ⟨h1, h2⟩ := h1
    go_enter Try.func11, Try.ntmps11
    go_wp2_with (go_at_call 26; refine (isTag_any _ _).mono ?_; rintro e w' ⟨rfl, g, rfl⟩)
    all_goals
      go_ret
      exact gr_mk (by simp [rankF, *]) (grow_g (grow_alloc (Below.refl _ _) _) _)
  · have ht : isTagF t = false := by simpa using ht
    go_enter Try.func11, Try.ntmps11
    go_wp2_with (go_at_call 26; refine (isTag_any _ _).mono ?_; rintro e w' ⟨rfl, g, rfl⟩)
    go_ret
    exact gr_mk (by simp [rankF, *]) (grow_g (grow_alloc (Below.refl _ _) _) _)

def beatsF (o1 t1 k1 o2 t2 k2 : Int) : Bool := o1 == o2 && (decide (0 ≤ rankF t2 k2) && decide (rankF t2 k2 < rankF t1 k1))

theorem beats_any (o1 t1 k1 o2 t2 k2 : Int) (w : World) :
    Calls Try.prog 12 #[nt o1 t1 k1, nt o2 t2 k2] w (Gr (.bool (beatsF o1 t1 k1 o2 t2 k2)) w) := by
  cases h1 : (o1 == o2) <;> cases h2 : (decide (0 ≤ rankF t2 k2))
  all_goals
    go_enter Try.func12, Try.ntmps12
    go_wp2_with fail
    refine wp_region_grows (by kernel_rfl) (by kernel_rfl) ?_
    repeat (go_big_quiet_step ((go_at_call 11; exact grows_of (rank_any _ _ _ _))))
    refine wpQuiet_nil ?_
    rintro _ ⟨g, rfl⟩
    go_wp2_with fail
    go_ret
    exact gr_mk (by simp [beatsF, *]) (grow_g (grow_alloc (grow_alloc (Below.refl _ _) _) _) _)

def validF (n o t k : Int) : Bool := decide (1 ≤ n) && (decide (n ≤ 100) && (decide (0 ≤ o) && (decide (o < n) && (isTagF t && isKindF k))))

theorem valid_any (n o t k : Int) (w : World) : Calls Try.prog 15 #[i64 n, nt o t k] w (Gr (.bool (validF n o t k)) w) := by
  go_enter Try.func15, Try.ntmps15
  go_wp2_with (first
    | (go_at_call 26; refine (isTag_any _ _).mono ?_; rintro e w' ⟨rfl, g, rfl⟩)
    | (go_at_call 27; refine (isKind_any _ _).mono ?_; rintro e w' ⟨rfl, g, rfl⟩))
  all_goals
    go_ret
    refine gr_mk (by simp [validF, *] <;> omega) ?_
    repeat (first | exact Below.refl _ _ | refine grow_g ?_ _ | refine grow_alloc ?_ _)

theorem rvalid_any (n o t k : Int) (w : World) : Calls Try.prog 16 #[i64 n, nt o t k] w (Gr (.bool (validF n o t k)) w) := by
  go_enter Try.func16, Try.ntmps16
  go_wp2
  all_goals
    go_ret
    refine gr_mk (by simp [validF, isTagF, isKindF, *] <;> omega) ?_
    repeat (first | exact Below.refl _ _ | refine grow_g ?_ _ | refine grow_alloc ?_ _)

theorem rrank_any (o t k : Int) (w : World) : Calls Try.prog 17 #[nt o t k] w (Gr (i64 (rankF t k)) w) := by
  by_cases e1 : k = 1
  · subst e1
    go_enter Try.func17, Try.ntmps17
    go_wp2
    all_goals
      go_ret
      refine gr_mk (by simp [rankF, isTagF, *] <;> omega) ?_
      repeat (first | exact Below.refl _ _ | refine grow_g ?_ _ | refine grow_alloc ?_ _)
  · by_cases e2 : k = 2
    · subst e2
      go_enter Try.func17, Try.ntmps17
      go_wp2
      all_goals
        go_ret
        refine gr_mk (by simp [rankF, isTagF, *] <;> omega) ?_
        repeat (first | exact Below.refl _ _ | refine grow_g ?_ _ | refine grow_alloc ?_ _)
    · have f1 : (k == 1) = false := by simpa using e1
      have f2 : (k == 2) = false := by simpa using e2
      have e1 : (k != 1) = true := by simpa using e1
      have e2 : (k != 2) = true := by simpa using e2
      go_enter Try.func17, Try.ntmps17
      go_wp2
      all_goals
        go_ret
        refine gr_mk (by simp [rankF, isTagF, *]) ?_
        repeat (first | exact Below.refl _ _ | refine grow_g ?_ _ | refine grow_alloc ?_ _)

theorem rbeats_any (o1 t1 k1 o2 t2 k2 : Int) (w : World) :
    Calls Try.prog 25 #[nt o1 t1 k1, nt o2 t2 k2] w (Gr (.bool (beatsF o1 t1 k1 o2 t2 k2)) w) := by
  cases h1 : (o1 == o2) <;> cases h2 : (decide (0 ≤ rankF t2 k2)) <;> cases h3 : (decide (0 ≤ rankF t1 k1))
  all_goals
    go_enter Try.func25, Try.ntmps25
    go_wp2_with fail
    refine wp_region_grows (by kernel_rfl) (by kernel_rfl) ?_
    repeat (go_big_quiet_step ((go_at_call 17; exact grows_of (rrank_any _ _ _ _))))
    refine wpQuiet_nil ?_
    rintro _ ⟨g, rfl⟩
    go_wp2_with fail
    go_ret
    refine gr_mk (by simp [beatsF, *] <;> simp at h2 h3 <;> omega) ?_
    repeat (first | exact Below.refl _ _ | refine grow_g ?_ _ | refine grow_alloc ?_ _)

def freshR (o : Int) : Value := nt o 0 1
theorem fresh_any (o : Int) (w : World) : Calls Try.prog 9 #[i64 o] w (Gr (nt o 0 1) w) := by
  go_enter Try.func9, Try.ntmps9
  go_wp2
  exact bodyPost_ret (v := nt o 0 1) (by simp [results, Try.results9, go_sem]) rfl (gr_mk rfl (by repeat (first | exact Below.refl _ _ | refine grow_g ?_ _ | refine grow_alloc ?_ _)))
theorem rfresh_any (o : Int) (w : World) : Calls Try.prog 18 #[i64 o] w (Gr (nt o 0 1) w) := by
  go_enter Try.func18, Try.ntmps18
  go_wp2
  exact bodyPost_ret (v := nt o 0 1) (by simp [results, Try.results18, go_sem]) rfl (gr_mk rfl (by repeat (first | exact Below.refl _ _ | refine grow_g ?_ _ | refine grow_alloc ?_ _)))
theorem alive_any (w : World) : Calls Try.prog 10 #[] w (Gr (.bool true) w) := by
  have h1 : rankF 5 2 = 11 := by decide
  have h2 : validF 4 3 5 1 = true := by decide
  go_enter Try.func10, Try.ntmps10
  go_wp2_with (first
    | (go_at_call 11; refine (rank_any _ _ _ _).mono ?_; rintro e w' ⟨rfl, g, rfl⟩)
    | (go_at_call 15; refine (valid_any _ _ _ _ _).mono ?_; rintro e w' ⟨rfl, g, rfl⟩))
  all_goals
    go_ret
    refine gr_mk (by simp [*]) ?_
    repeat (first | exact Below.refl _ _ | refine grow_g ?_ _ | refine grow_alloc ?_ _)

end Go.Proofs.Ytkbebhkbijgbgaa
