/- The walks of the laws NoticeReplies and NoticeOrder. -/
import Derived.Test.YtkbebhkbijgbgaaC
namespace Go.Proofs.Ytkbebhkbijgbgaa
open Go.RowKit Go.Ear
set_option maxHeartbeats 4000000
set_option maxRecDepth 100000

theorem rank_of {t k : Int} (h : 0 ≤ rankF t k) : 0 ≤ t ∧ t ≤ 1048576 ∧ ((k = 1 ∧ rankF t k = 2 * t) ∨ (k = 2 ∧ rankF t k = 2 * t + 1)) := by
  by_cases ht : 0 ≤ t ∧ t ≤ 1048576
  · have e : isTagF t = true := by simp [isTagF, *]
    unfold rankF at h ⊢
    rw [e] at h ⊢
    refine ⟨ht.1, ht.2, ?_⟩
    by_cases h1 : k = 1
    · subst h1; simp
    · by_cases h2 : k = 2
      · subst h2; simp
      · simp [h1, h2] at h
  · have e : isTagF t = false := by simp [isTagF]; omega
    simp [rankF, e] at h

theorem rank_mk1 {t : Int} (h : 0 ≤ t) (h' : t ≤ 1048576) : rankF t 1 = 2 * t := by
  have : isTagF t = true := by simp [isTagF, *]
  simp [rankF, this]
theorem rank_mk2 {t : Int} (h : 0 ≤ t) (h' : t ≤ 1048576) : rankF t 2 = 2 * t + 1 := by
  have : isTagF t = true := by simp [isTagF, *]
  simp [rankF, this]

theorem reply_ways (o t k t' k' : Int) :
    replyF o t k = (0, 0, 0, 50) ∨ replyF o t k = (0, 0, 0, 120) ∨
    (replyF o t k = (o, t + 1, 1, 0) ∧ k = 2 ∧ 0 ≤ t ∧ t ≤ 1048575 ∧ (beatsF o t' k' o t 2 = true → beatsF o (t + 1) 1 o t' k' = false) ∧ beatsF o (t + 1) 1 o t 2 = true ∧ beatsF o t 2 o t 1 = true ∧ rankF (t + 1) 1 = rankF t 2 + 1 ∧ 0 ≤ rankF t 2 ∧ rankF t 2 ≤ 2097153) := by
  unfold replyF
  cases h1 : decide (rankF t k < 0) <;> cases h2 : (k != 2) <;> cases h3 : (t == 1048576) <;> simp
  simp at h1 h2 h3
  subst h2
  obtain ⟨ha, hb, hc⟩ := rank_of h1
  have e1 := rank_mk1 (t := t + 1) (by omega) (by omega)
  have e2 := rank_mk2 (t := t) (by omega) (by omega)
  have e3 := rank_mk1 (t := t) (by omega) (by omega)
  refine ⟨rfl, ha, by omega, ?_, ?_, ?_, by omega, by omega, by omega⟩
  · simp only [beatsF, e1, e2]
    simp only [beq_self_eq_true, Bool.true_and, Bool.and_eq_true, decide_eq_true_eq]
    intro h
    simp
    omega
  · simp [beatsF, e1, e2]; omega
  · simp [beatsF, e3, e2]; omega

theorem law_replies (o t k o' t' k' : Int) (w : World) : Calls Try.prog 7 #[nt o t k, nt o' t' k'] w (Gr (.bool true) w) := by
  rcases reply_ways o t k t' k' with h | h | ⟨h, rfl, h0, h1, h2, h3, h4, h5, h7, h8⟩
  rotate_right
  rcases hb : beatsF o t' k' o t 2 with _ | _
  rotate_left
  have h6 := h2 hb
  all_goals (try clear h2)
  all_goals
    go_enter Try.func7, Try.ntmps7
    go_wp2_with (first
      | (go_at_call 13; refine (reply_any _ _ _ _).mono ?_; rintro e w' ⟨rfl, g, rfl⟩)
      | (go_at_call 10; refine (alive_any _).mono ?_; rintro e w' ⟨rfl, g, rfl⟩)
      | (go_at_call 12; refine (beats_any _ _ _ _ _ _ _).mono ?_; rintro e w' ⟨rfl, g, rfl⟩)
      | (go_at_call 11; refine (rank_any _ _ _ _).mono ?_; rintro e w' ⟨rfl, g, rfl⟩))
  all_goals try (
    refine wp_region_grows (by kernel_rfl) (by kernel_rfl) ?_
    repeat (go_big_quiet_step (((first
        | (go_at_call 13; exact grows_of (reply_any _ _ _ _))
        | (go_at_call 10; exact grows_of (alive_any _))
        | (go_at_call 12; exact grows_of (beats_any _ _ _ _ _ _ _))
        | (go_at_call 11; exact grows_of (rank_any _ _ _ _))))))
    refine wpQuiet_nil ?_
    rintro _ ⟨g, rfl⟩
    go_wp2_with (first
      | (go_at_call 13; refine (reply_any _ _ _ _).mono ?_; rintro e w' ⟨rfl, g, rfl⟩)
      | (go_at_call 10; refine (alive_any _).mono ?_; rintro e w' ⟨rfl, g, rfl⟩)
      | (go_at_call 12; refine (beats_any _ _ _ _ _ _ _).mono ?_; rintro e w' ⟨rfl, g, rfl⟩)
      | (go_at_call 11; refine (rank_any _ _ _ _).mono ?_; rintro e w' ⟨rfl, g, rfl⟩)))
  all_goals
    go_light
    first
      | (exfalso; simp_all; done)
      | (exfalso; omega)
      | (go_ret
         refine gr_mk (by simp_all) ?_
         repeat (first | exact Below.refl _ _ | refine grow_g ?_ _ | refine grow_alloc ?_ _ | refine grow_drew ?_ | refine grow_set ?_ (by simp <;> omega) _))

theorem max_val {o t1 k1 t2 k2 : Int} (h1 : 0 ≤ rankF t1 k1) (h2 : 0 ≤ rankF t2 k2) :
    maxF o t1 k1 o t2 k2 = if rankF t1 k1 < rankF t2 k2 then (o, t2, k2, 0) else (o, t1, k1, 0) := by
  unfold maxF beatsF
  have e1 : decide (rankF t1 k1 < 0) = false := by simp; omega
  have e2 : decide (rankF t2 k2 < 0) = false := by simp; omega
  have e3 : decide (0 ≤ rankF t1 k1) = true := by simp; omega
  simp [e1, e2, e3]
theorem rank_inj {t1 k1 t2 k2 : Int} (h1 : 0 ≤ rankF t1 k1) (h : rankF t1 k1 = rankF t2 k2) : t1 = t2 ∧ k1 = k2 := by
  obtain ⟨a, b, c⟩ := rank_of h1
  obtain ⟨a', b', c'⟩ := rank_of (h ▸ h1 : 0 ≤ rankF t2 k2)
  omega
theorem max_err {o t1 k1 t2 k2 : Int} (h : rankF t1 k1 < 0 ∨ rankF t2 k2 < 0) : maxF o t1 k1 o t2 k2 = (0, 0, 0, 50) := by
  unfold maxF
  rcases h with h | h <;> simp [h]

/-- All that the law asks of three notices of one node. -/
theorem order_facts {o ta ka tb kb tc kc : Int} (ha : 0 ≤ rankF ta ka) (hb : 0 ≤ rankF tb kb) (hc : 0 ≤ rankF tc kc) :
    ∃ x z u : Int × Int, maxF o ta ka o tb kb = (o, x.1, x.2, 0) ∧ maxF o tb kb o ta ka = (o, x.1, x.2, 0) ∧ maxF o tb kb o tc kc = (o, z.1, z.2, 0) ∧
      maxF o x.1 x.2 o tc kc = (o, u.1, u.2, 0) ∧ maxF o ta ka o z.1 z.2 = (o, u.1, u.2, 0) ∧ maxF o ta ka o ta ka = (o, ta, ka, 0) := by
  have m1 := max_val (o := o) ha hb
  have m2 := max_val (o := o) hb ha
  have m3 := max_val (o := o) hb hc
  have m4 := max_val (o := o) ha hc
  have m5 := max_val (o := o) ha ha
  by_cases h1 : rankF ta ka < rankF tb kb
  · rw [if_pos h1] at m1
    rw [if_neg (by omega)] at m2
    by_cases h2 : rankF tb kb < rankF tc kc
    · rw [if_pos h2] at m3
      rw [if_pos (by omega)] at m4
      exact ⟨(tb, kb), (tc, kc), (tc, kc), m1, m2, m3, m3, m4, by simpa using m5⟩
    · rw [if_neg h2] at m3
      exact ⟨(tb, kb), (tb, kb), (tb, kb), m1, m2, m3, m3, m1, by simpa using m5⟩
  · rw [if_neg h1] at m1
    have m2' : maxF o tb kb o ta ka = (o, ta, ka, 0) := by
      by_cases h2 : rankF tb kb < rankF ta ka
      · rw [m2, if_pos h2]
      · obtain ⟨rfl, rfl⟩ := rank_inj ha (by omega : rankF ta ka = rankF tb kb)
        rw [m2, if_neg h2]
    by_cases h2 : rankF tb kb < rankF tc kc
    · rw [if_pos h2] at m3
      by_cases h3 : rankF ta ka < rankF tc kc
      · rw [if_pos h3] at m4
        exact ⟨(ta, ka), (tc, kc), (tc, kc), m1, m2', m3, m4, m4, by simpa using m5⟩
      · rw [if_neg h3] at m4
        exact ⟨(ta, ka), (tc, kc), (ta, ka), m1, m2', m3, m4, m4, by simpa using m5⟩
    · rw [if_neg h2] at m3
      rw [if_neg (by omega)] at m4
      exact ⟨(ta, ka), (tb, kb), (ta, ka), m1, m2', m3, m4, m1, by simpa using m5⟩

theorem order_beats {o ta ka tb kb tc kc : Int} (ha : 0 ≤ rankF ta ka) (hb : 0 ≤ rankF tb kb) (hc : 0 ≤ rankF tc kc) :
    (beatsF o ta ka o tb kb = false ∧ beatsF o tb kb o ta ka = false ∧ ta = tb ∧ ka = kb) ∨
    (beatsF o ta ka o tb kb = true ∧ beatsF o tb kb o ta ka = false ∧ ¬ (ta = tb ∧ ka = kb) ∧ beatsF o tb kb o tc kc = false) ∨
    (beatsF o ta ka o tb kb = true ∧ beatsF o tb kb o ta ka = false ∧ ¬ (ta = tb ∧ ka = kb) ∧ beatsF o tb kb o tc kc = true ∧ beatsF o ta ka o tc kc = true) ∨
    (beatsF o ta ka o tb kb = false ∧ beatsF o tb kb o ta ka = true ∧ ¬ (ta = tb ∧ ka = kb)) := by
  have ea : decide (0 ≤ rankF ta ka) = true := by simpa using ha
  have eb : decide (0 ≤ rankF tb kb) = true := by simpa using hb
  have ec : decide (0 ≤ rankF tc kc) = true := by simpa using hc
  simp only [beatsF, ea, eb, ec, beq_self_eq_true, Bool.true_and]
  by_cases h1 : rankF tb kb < rankF ta ka
  · have hne : ¬ (ta = tb ∧ ka = kb) := by rintro ⟨rfl, rfl⟩; omega
    by_cases h2 : rankF tc kc < rankF tb kb
    · exact .inr (.inr (.inl ⟨by simpa using h1, by simp; omega, hne, by simpa using h2, by simp; omega⟩))
    · exact .inr (.inl ⟨by simpa using h1, by simp; omega, hne, by simpa using h2⟩)
  · by_cases h2 : rankF ta ka < rankF tb kb
    · have hne : ¬ (ta = tb ∧ ka = kb) := by rintro ⟨rfl, rfl⟩; omega
      exact .inr (.inr (.inr ⟨by simpa using h1, by simpa using h2, hne⟩))
    · obtain ⟨rfl, rfl⟩ := rank_inj ha (by omega : rankF ta ka = rankF tb kb)
      exact .inl ⟨by simp, by simp, rfl, rfl⟩

end Go.Proofs.Ytkbebhkbijgbgaa
