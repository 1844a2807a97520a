/- Contracts that print.sh wrote: glyph_isLetter, glyph_Class, earshotref1_more. -/
import Derived.Test.YtgohhallpkknfaaDoorQr0
namespace Go.Proofs.YtgohhallpkknfaaDoor.PNoticeReads
open Go.RowKit Go.Proofs.YtgohhallpkknfaaDoorW.PrintWords Go.Proofs.YtgohhallpkknfaaDoorW.PrintLast Go.Proofs.YtgohhallpkknfaaDoorW.PrintMore
attribute [local go_sem] max2_int min2_int max_two min_two max_three min_three max_four min_four   -- for this text's walks alone
set_option linter.unusedVariables false
set_option linter.unusedSimpArgs false

/-! ### glyph_isLetter: function 33 -/
mutual
def glyph_isLetter.j0 : Nat → Int → Bool → Option (Bool)
  | 0, _, _ => none
  | k + 1, x0, x3 => if x3 = true then (glyph_isLetter.j1 k x0 x3) else (if x0 ≥ 97 then (glyph_isLetter.j1 k x0 (decide (x0 ≤ 122))) else (glyph_isLetter.j1 k x0 false))
def glyph_isLetter.j1 : Nat → Int → Bool → Option (Bool)
  | 0, _, _ => none
  | k + 1, x0, x3 => if x3 = true then (some true) else (if x0 = 215 then (some false) else (if x0 = 247 then (some false) else (if x0 ≥ 768 then (glyph_isLetter.j2 k x0 (decide (x0 ≤ 879))) else (glyph_isLetter.j2 k x0 false))))
def glyph_isLetter.j2 : Nat → Int → Bool → Option (Bool)
  | 0, _, _ => none
  | k + 1, x0, x16 => if x16 = true then (some false) else (if x0 = 5760 then (some false) else (if x0 ≥ 192 then (if x0 ≤ 8191 then (some true) else (if x0 ≥ 12353 then (if x0 ≤ 55203 then (some true) else (if x0 ≥ 127744 then (some (decide (x0 ≤ 129791))) else (some false))) else (if x0 ≥ 127744 then (some (decide (x0 ≤ 129791))) else (some false)))) else (if x0 ≥ 12353 then (if x0 ≤ 55203 then (some true) else (if x0 ≥ 127744 then (some (decide (x0 ≤ 129791))) else (some false))) else (if x0 ≥ 127744 then (some (decide (x0 ≤ 129791))) else (some false)))))
end
def glyph_isLetter.f (k : Nat) (a0 : Int) : Option (Bool) := if a0 ≥ 65 then (glyph_isLetter.j0 k a0 (decide (a0 ≤ 90))) else (glyph_isLetter.j0 k a0 false)
theorem glyph_isLetter.mono_l : ∀ k, (∀ y0 y1, LeO (glyph_isLetter.j0 k y0 y1) (glyph_isLetter.j0 (k + 1) y0 y1)) ∧ (∀ y0 y1, LeO (glyph_isLetter.j1 k y0 y1) (glyph_isLetter.j1 (k + 1) y0 y1)) ∧ (∀ y0 y1, LeO (glyph_isLetter.j2 k y0 y1) (glyph_isLetter.j2 (k + 1) y0 y1))
  | 0 => ⟨fun _ _ r h => by simp [glyph_isLetter.j0] at h, fun _ _ r h => by simp [glyph_isLetter.j1] at h, fun _ _ r h => by simp [glyph_isLetter.j2] at h⟩
  | k + 1 => by
    obtain ⟨ih0, ih1, ih2⟩ := glyph_isLetter.mono_l k
    refine ⟨?_, ?_, ?_⟩
    · intro y0 y1
      unfold glyph_isLetter.j0
      repeat' first
      | (with_reducible exact ih0 _ _)
      | (with_reducible exact ih1 _ _)
      | (with_reducible exact ih2 _ _)
      | (with_reducible exact LeO.refl _)
      | (with_reducible exact LeO.none _)
      | (with_reducible refine LeO.ite ?_ ?_)
      | (with_reducible refine LeO.bind ?_ (fun _ => ?_))
      | exact ih0 _ _
      | exact ih1 _ _
      | exact ih2 _ _
      | exact LeO.none _
      | refine LeO.ite ?_ ?_
      | refine LeO.bind ?_ (fun _ => ?_)
    · intro y0 y1
      unfold glyph_isLetter.j1
      repeat' first
      | (with_reducible exact ih0 _ _)
      | (with_reducible exact ih1 _ _)
      | (with_reducible exact ih2 _ _)
      | (with_reducible exact LeO.refl _)
      | (with_reducible exact LeO.none _)
      | (with_reducible refine LeO.ite ?_ ?_)
      | (with_reducible refine LeO.bind ?_ (fun _ => ?_))
      | exact ih0 _ _
      | exact ih1 _ _
      | exact ih2 _ _
      | exact LeO.none _
      | refine LeO.ite ?_ ?_
      | refine LeO.bind ?_ (fun _ => ?_)
    · intro y0 y1
      unfold glyph_isLetter.j2
      repeat' first
      | (with_reducible exact ih0 _ _)
      | (with_reducible exact ih1 _ _)
      | (with_reducible exact ih2 _ _)
      | (with_reducible exact LeO.refl _)
      | (with_reducible exact LeO.none _)
      | (with_reducible refine LeO.ite ?_ ?_)
      | (with_reducible refine LeO.bind ?_ (fun _ => ?_))
      | exact ih0 _ _
      | exact ih1 _ _
      | exact ih2 _ _
      | exact LeO.none _
      | refine LeO.ite ?_ ?_
      | refine LeO.bind ?_ (fun _ => ?_)
theorem glyph_isLetter.mono : ∀ a0 k, LeO (glyph_isLetter.f k a0) (glyph_isLetter.f (k + 1) a0) := by
  intro a0 k
  obtain ⟨ih0, ih1, ih2⟩ := glyph_isLetter.mono_l k
  unfold glyph_isLetter.f
  repeat' first
      | (with_reducible exact ih0 _ _)
      | (with_reducible exact ih1 _ _)
      | (with_reducible exact ih2 _ _)
      | (with_reducible exact LeO.refl _)
      | (with_reducible exact LeO.none _)
      | (with_reducible refine LeO.ite ?_ ?_)
      | (with_reducible refine LeO.bind ?_ (fun _ => ?_))
      | exact ih0 _ _
      | exact ih1 _ _
      | exact ih2 _ _
      | exact LeO.none _
      | refine LeO.ite ?_ ?_
      | refine LeO.bind ?_ (fun _ => ?_)
set_option maxHeartbeats 8000000 in
set_option maxRecDepth 100000 in
theorem glyph_isLetter.calls (k : Nat) (a0 : Int) (r : Bool) (w : World) (h : glyph_isLetter.f k a0 = some r) :
    Calls Tryd.prog 33 #[.int .i32 a0] w fun e w' => e = .returned (.bool r) ∧ Drawn0 w w' := by
  have H : (if a0 ≥ 65 then (glyph_isLetter.j0 k a0 (decide (a0 ≤ 90))) else (glyph_isLetter.j0 k a0 false)) = some r := h
  clear h
  have HC2 := Aside0.mk H
  clear H
  go_enter Tryd.func33, Tryd.ntmps33
  go_upto_region 1 with (fail)
  go_cut [3] (fun v3 wc => ∃ (kq : Nat) (x3_1 : Bool), v3 = .bool x3_1 ∧ Aside0 (glyph_isLetter.j0 kq a0 x3_1 = some r) ∧ Aside0 (kq ≤ k) ∧ Drawn0 w wc)
  case first =>
    have H := HC2.out
    clear HC2
    by_cases c3 : a0 ≥ 65
    · rw [if_pos c3] at H
      have c3b0 : decide (65 ≤ a0) = true := decide_eq_true c3
      clear c3
      (first | rw [c3b0] | (simp only [i64_w, i32_w]; rw [c3b0]) | skip)
      have H' := Aside0.mk H
      clear H
      go_wp2
      go_meet
      case rel => exact ⟨_, (decide (a0 ≤ 90)), (by first | rfl | (simp; done) | (simp [*]; done)), H', ⟨by first | omega | exact Nat.le_refl _⟩, by repeat (first | exact Drawn0.refl _ | apply Drawn0.step)⟩
    · rw [if_neg c3] at H
      have c3b0 : decide (65 ≤ a0) = false := decide_eq_false c3
      clear c3
      (first | rw [c3b0] | (simp only [i64_w, i32_w]; rw [c3b0]) | skip)
      have H' := Aside0.mk H
      clear H
      go_wp2
      go_meet
      case rel => exact ⟨_, (false), (by first | rfl | (simp; done) | (simp [*]; done)), H', ⟨by first | omega | exact Nat.le_refl _⟩, by repeat (first | exact Drawn0.refl _ | apply Drawn0.step)⟩
  case rest =>
    clear HC2
    try clear p2
    try clear c3
    try clear c3b0
    obtain ⟨kq, x3_1, rfl, HA, HJ1, ⟨mc1, rfl⟩⟩ := hcut
    cases kq with
    | zero => exact absurd HA.out (by simp [glyph_isLetter.j0])
    | succ kj1 =>
      have H := HA.out
      clear HA
      simp only [glyph_isLetter.j0] at H
      have HC4 := Aside0.mk H
      clear H
      go_upto_if 3 with (fail)
      go_cut [3] (fun v3 wc => ∃ (kq : Nat) (x3_3 : Bool), v3 = .bool x3_3 ∧ Aside0 (glyph_isLetter.j1 kq a0 x3_3 = some r) ∧ Aside0 (kq ≤ kj1) ∧ Drawn0 w wc)
      case first =>
        have H := HC4.out
        clear HC4
        by_cases c5 : x3_1 = true
        · subst c5
          have H1 : (glyph_isLetter.j1 kj1 a0 true) = some r := by rw [if_pos rfl] at H; exact H
          clear H
          have H := H1
          clear H1
          have H' := Aside0.mk H
          clear H
          go_wp2
          go_meet
          case rel => exact ⟨_, (true), (by first | rfl | (simp; done) | (simp [*]; done)), H', ⟨by have := HJ1.out; first | omega | exact Nat.le_refl _⟩, by repeat (first | exact Drawn0.refl _ | apply Drawn0.step)⟩
        · replace c5 := Bool.eq_false_iff.mpr c5
          subst c5
          have H1 : (if a0 ≥ 97 then (glyph_isLetter.j1 kj1 a0 (decide (a0 ≤ 122))) else (glyph_isLetter.j1 kj1 a0 false)) = some r := by rw [if_neg (show ¬ (false = true) by decide)] at H; exact H
          clear H
          have H := H1
          clear H1
          by_cases c6 : a0 ≥ 97
          · rw [if_pos c6] at H
            have c6b0 : decide (97 ≤ a0) = true := decide_eq_true c6
            clear c6
            (first | rw [c6b0] | (simp only [i64_w, i32_w]; rw [c6b0]) | skip)
            have H' := Aside0.mk H
            clear H
            go_wp2
            go_meet
            case rel => exact ⟨_, (decide (a0 ≤ 122)), (by first | rfl | (simp; done) | (simp [*]; done)), H', ⟨by have := HJ1.out; first | omega | exact Nat.le_refl _⟩, by repeat (first | exact Drawn0.refl _ | apply Drawn0.step)⟩
          · rw [if_neg c6] at H
            have c6b0 : decide (97 ≤ a0) = false := decide_eq_false c6
            clear c6
            (first | rw [c6b0] | (simp only [i64_w, i32_w]; rw [c6b0]) | skip)
            have H' := Aside0.mk H
            clear H
            go_wp2
            go_meet
            case rel => exact ⟨_, (false), (by first | rfl | (simp; done) | (simp [*]; done)), H', ⟨by have := HJ1.out; first | omega | exact Nat.le_refl _⟩, by repeat (first | exact Drawn0.refl _ | apply Drawn0.step)⟩
      case rest =>
        clear HC4
        try clear c1
        try clear p2
        try clear c3
        try clear c3b0
        try clear c5
        try clear c6
        try clear c6b0
        try clear p2
        obtain ⟨kq, x3_3, rfl, HA, HJ3, ⟨mc3, rfl⟩⟩ := hcut
        cases kq with
        | zero => exact absurd HA.out (by simp [glyph_isLetter.j1])
        | succ kj3 =>
          have H := HA.out
          clear HA
          simp only [glyph_isLetter.j1] at H
          by_cases c7 : x3_3 = true
          · subst c7
            have H1 : (some true) = some r := by rw [if_pos rfl] at H; exact H
            clear H
            have H := H1
            clear H1
            obtain rfl := Option.some.inj H
            go_wp2
            go_ret
            exact ⟨by first | rfl | (simp; done) | (simp [*]; done), by repeat (first | exact Drawn0.refl _ | apply Drawn0.step)⟩
          · replace c7 := Bool.eq_false_iff.mpr c7
            subst c7
            have H1 : (if a0 = 215 then (some false) else (if a0 = 247 then (some false) else (if a0 ≥ 768 then (glyph_isLetter.j2 kj3 a0 (decide (a0 ≤ 879))) else (glyph_isLetter.j2 kj3 a0 false)))) = some r := by rw [if_neg (show ¬ (false = true) by decide)] at H; exact H
            clear H
            have H := H1
            clear H1
            by_cases c8 : a0 = 215
            · rw [if_pos c8] at H
              have c8b0 : (a0 == 215) = true := beq_iff_eq.mpr c8
              have c8b1 : (a0 != 215) = false := bne_eq_false_iff_eq.mpr c8
              clear c8
              obtain rfl := Option.some.inj H
              go_wp2
              go_ret
              exact ⟨by first | rfl | (simp; done) | (simp [*]; done), by repeat (first | exact Drawn0.refl _ | apply Drawn0.step)⟩
            · rw [if_neg c8] at H
              have c8b0 : (a0 == 215) = false := beq_eq_false_iff_ne.mpr c8
              have c8b1 : (a0 != 215) = true := bne_iff_ne.mpr c8
              by_cases c9 : a0 = 247
              · rw [if_pos c9] at H
                have c9b0 : (a0 == 247) = true := beq_iff_eq.mpr c9
                have c9b1 : (a0 != 247) = false := bne_eq_false_iff_eq.mpr c9
                clear c9
                obtain rfl := Option.some.inj H
                go_wp2
                go_ret
                exact ⟨by first | rfl | (simp; done) | (simp [*]; done), by repeat (first | exact Drawn0.refl _ | apply Drawn0.step)⟩
              · rw [if_neg c9] at H
                have c9b0 : (a0 == 247) = false := beq_eq_false_iff_ne.mpr c9
                have c9b1 : (a0 != 247) = true := bne_iff_ne.mpr c9
                have HC10 := Aside0.mk H
                clear H
                go_upto_region 6 with (fail)
                go_cut [16] (fun v16 wc => ∃ (kq : Nat) (x16_9 : Bool), v16 = .bool x16_9 ∧ Aside0 (glyph_isLetter.j2 kq a0 x16_9 = some r) ∧ Aside0 (kq ≤ kj3) ∧ Drawn0 w wc)
                case first =>
                  have H := HC10.out
                  clear HC10
                  by_cases c11 : a0 ≥ 768
                  · rw [if_pos c11] at H
                    have c11b0 : decide (768 ≤ a0) = true := decide_eq_true c11
                    clear c11
                    (first | rw [c11b0] | (simp only [i64_w, i32_w]; rw [c11b0]) | skip)
                    have H' := Aside0.mk H
                    clear H
                    go_wp2
                    go_meet
                    case rel => exact ⟨_, (decide (a0 ≤ 879)), (by first | rfl | (simp; done) | (simp [*]; done)), H', ⟨by have := HJ1.out; have := HJ3.out; first | omega | exact Nat.le_refl _⟩, by repeat (first | exact Drawn0.refl _ | apply Drawn0.step)⟩
                  · rw [if_neg c11] at H
                    have c11b0 : decide (768 ≤ a0) = false := decide_eq_false c11
                    clear c11
                    (first | rw [c11b0] | (simp only [i64_w, i32_w]; rw [c11b0]) | skip)
                    have H' := Aside0.mk H
                    clear H
                    go_wp2
                    go_meet
                    case rel => exact ⟨_, (false), (by first | rfl | (simp; done) | (simp [*]; done)), H', ⟨by have := HJ1.out; have := HJ3.out; first | omega | exact Nat.le_refl _⟩, by repeat (first | exact Drawn0.refl _ | apply Drawn0.step)⟩
                case rest =>
                  clear HC10
                  try clear c1
                  try clear p2
                  try clear c3
                  try clear c3b0
                  try clear c5
                  try clear c6
                  try clear c6b0
                  try clear c7
                  try clear c8
                  try clear c8b0
                  try clear c8b1
                  try clear c9
                  try clear c9b0
                  try clear c9b1
                  try clear c11
                  try clear c11b0
                  try clear p2
                  obtain ⟨kq, x16_9, rfl, HA, HJ9, ⟨mc9, rfl⟩⟩ := hcut
                  cases kq with
                  | zero => exact absurd HA.out (by simp [glyph_isLetter.j2])
                  | succ kj9 =>
                    have H := HA.out
                    clear HA
                    simp only [glyph_isLetter.j2] at H
                    by_cases c12 : x16_9 = true
                    · subst c12
                      have H1 : (some false) = some r := by rw [if_pos rfl] at H; exact H
                      clear H
                      have H := H1
                      clear H1
                      obtain rfl := Option.some.inj H
                      go_wp2
                      go_ret
                      exact ⟨by first | rfl | (simp; done) | (simp [*]; done), by repeat (first | exact Drawn0.refl _ | apply Drawn0.step)⟩
                    · replace c12 := Bool.eq_false_iff.mpr c12
                      subst c12
                      have H1 : (if a0 = 5760 then (some false) else (if a0 ≥ 192 then (if a0 ≤ 8191 then (some true) else (if a0 ≥ 12353 then (if a0 ≤ 55203 then (some true) else (if a0 ≥ 127744 then (some (decide (a0 ≤ 129791))) else (some false))) else (if a0 ≥ 127744 then (some (decide (a0 ≤ 129791))) else (some false)))) else (if a0 ≥ 12353 then (if a0 ≤ 55203 then (some true) else (if a0 ≥ 127744 then (some (decide (a0 ≤ 129791))) else (some false))) else (if a0 ≥ 127744 then (some (decide (a0 ≤ 129791))) else (some false))))) = some r := by rw [if_neg (show ¬ (false = true) by decide)] at H; exact H
                      clear H
                      have H := H1
                      clear H1
                      by_cases c13 : a0 = 5760
                      · rw [if_pos c13] at H
                        have c13b0 : (a0 == 5760) = true := beq_iff_eq.mpr c13
                        have c13b1 : (a0 != 5760) = false := bne_eq_false_iff_eq.mpr c13
                        clear c13
                        obtain rfl := Option.some.inj H
                        go_wp2
                        go_ret
                        exact ⟨by first | rfl | (simp; done) | (simp [*]; done), by repeat (first | exact Drawn0.refl _ | apply Drawn0.step)⟩
                      · rw [if_neg c13] at H
                        have c13b0 : (a0 == 5760) = false := beq_eq_false_iff_ne.mpr c13
                        have c13b1 : (a0 != 5760) = true := bne_iff_ne.mpr c13
                        by_cases c14 : a0 ≥ 192
                        · rw [if_pos c14] at H
                          have c14b0 : decide (192 ≤ a0) = true := decide_eq_true c14
                          clear c14
                          by_cases c15 : a0 ≤ 8191
                          · rw [if_pos c15] at H
                            have c15b0 : decide (a0 ≤ 8191) = true := decide_eq_true c15
                            clear c15
                            obtain rfl := Option.some.inj H
                            go_wp2
                            go_ret
                            exact ⟨by first | rfl | (simp; done) | (simp [*]; done), by repeat (first | exact Drawn0.refl _ | apply Drawn0.step)⟩
                          · rw [if_neg c15] at H
                            have c15b0 : decide (a0 ≤ 8191) = false := decide_eq_false c15
                            clear c15
                            by_cases c16 : a0 ≥ 12353
                            · rw [if_pos c16] at H
                              have c16b0 : decide (12353 ≤ a0) = true := decide_eq_true c16
                              clear c16
                              by_cases c17 : a0 ≤ 55203
                              · rw [if_pos c17] at H
                                have c17b0 : decide (a0 ≤ 55203) = true := decide_eq_true c17
                                clear c17
                                obtain rfl := Option.some.inj H
                                go_wp2
                                go_ret
                                exact ⟨by first | rfl | (simp; done) | (simp [*]; done), by repeat (first | exact Drawn0.refl _ | apply Drawn0.step)⟩
                              · rw [if_neg c17] at H
                                have c17b0 : decide (a0 ≤ 55203) = false := decide_eq_false c17
                                clear c17
                                by_cases c18 : a0 ≥ 127744
                                · rw [if_pos c18] at H
                                  have c18b0 : decide (127744 ≤ a0) = true := decide_eq_true c18
                                  clear c18
                                  obtain rfl := Option.some.inj H
                                  go_wp2
                                  go_ret
                                  exact ⟨by first | rfl | (simp; done) | (simp [*]; done), by repeat (first | exact Drawn0.refl _ | apply Drawn0.step)⟩
                                · rw [if_neg c18] at H
                                  have c18b0 : decide (127744 ≤ a0) = false := decide_eq_false c18
                                  clear c18
                                  obtain rfl := Option.some.inj H
                                  go_wp2
                                  go_ret
                                  exact ⟨by first | rfl | (simp; done) | (simp [*]; done), by repeat (first | exact Drawn0.refl _ | apply Drawn0.step)⟩
                            · rw [if_neg c16] at H
                              have c16b0 : decide (12353 ≤ a0) = false := decide_eq_false c16
                              clear c16
                              by_cases c19 : a0 ≥ 127744
                              · rw [if_pos c19] at H
                                have c19b0 : decide (127744 ≤ a0) = true := decide_eq_true c19
                                clear c19
                                obtain rfl := Option.some.inj H
                                go_wp2
                                go_ret
                                exact ⟨by first | rfl | (simp; done) | (simp [*]; done), by repeat (first | exact Drawn0.refl _ | apply Drawn0.step)⟩
                              · rw [if_neg c19] at H
                                have c19b0 : decide (127744 ≤ a0) = false := decide_eq_false c19
                                clear c19
                                obtain rfl := Option.some.inj H
                                go_wp2
                                go_ret
                                exact ⟨by first | rfl | (simp; done) | (simp [*]; done), by repeat (first | exact Drawn0.refl _ | apply Drawn0.step)⟩
                        · rw [if_neg c14] at H
                          have c14b0 : decide (192 ≤ a0) = false := decide_eq_false c14
                          clear c14
                          by_cases c20 : a0 ≥ 12353
                          · rw [if_pos c20] at H
                            have c20b0 : decide (12353 ≤ a0) = true := decide_eq_true c20
                            clear c20
                            by_cases c21 : a0 ≤ 55203
                            · rw [if_pos c21] at H
                              have c21b0 : decide (a0 ≤ 55203) = true := decide_eq_true c21
                              clear c21
                              obtain rfl := Option.some.inj H
                              go_wp2
                              go_ret
                              exact ⟨by first | rfl | (simp; done) | (simp [*]; done), by repeat (first | exact Drawn0.refl _ | apply Drawn0.step)⟩
                            · rw [if_neg c21] at H
                              have c21b0 : decide (a0 ≤ 55203) = false := decide_eq_false c21
                              clear c21
                              by_cases c22 : a0 ≥ 127744
                              · rw [if_pos c22] at H
                                have c22b0 : decide (127744 ≤ a0) = true := decide_eq_true c22
                                clear c22
                                obtain rfl := Option.some.inj H
                                go_wp2
                                go_ret
                                exact ⟨by first | rfl | (simp; done) | (simp [*]; done), by repeat (first | exact Drawn0.refl _ | apply Drawn0.step)⟩
                              · rw [if_neg c22] at H
                                have c22b0 : decide (127744 ≤ a0) = false := decide_eq_false c22
                                clear c22
                                obtain rfl := Option.some.inj H
                                go_wp2
                                go_ret
                                exact ⟨by first | rfl | (simp; done) | (simp [*]; done), by repeat (first | exact Drawn0.refl _ | apply Drawn0.step)⟩
                          · rw [if_neg c20] at H
                            have c20b0 : decide (12353 ≤ a0) = false := decide_eq_false c20
                            clear c20
                            by_cases c23 : a0 ≥ 127744
                            · rw [if_pos c23] at H
                              have c23b0 : decide (127744 ≤ a0) = true := decide_eq_true c23
                              clear c23
                              obtain rfl := Option.some.inj H
                              go_wp2
                              go_ret
                              exact ⟨by first | rfl | (simp; done) | (simp [*]; done), by repeat (first | exact Drawn0.refl _ | apply Drawn0.step)⟩
                            · rw [if_neg c23] at H
                              have c23b0 : decide (127744 ≤ a0) = false := decide_eq_false c23
                              clear c23
                              obtain rfl := Option.some.inj H
                              go_wp2
                              go_ret
                              exact ⟨by first | rfl | (simp; done) | (simp [*]; done), by repeat (first | exact Drawn0.refl _ | apply Drawn0.step)⟩

/-! ### glyph_Class: function 14 -/
mutual
def glyph_Class.j0 : Nat → Int → Bool → Option (Int)
  | 0, _, _ => none
  | k + 1, x0, x3 => if x3 = true then (some 1) else (if x0 = 10 then (some 2) else (if x0 ≥ 48 then (glyph_Class.j1 k x0 (decide (x0 ≤ 57))) else (glyph_Class.j1 k x0 false)))
def glyph_Class.j1 : Nat → Int → Bool → Option (Int)
  | 0, _, _ => none
  | k + 1, x0, x13 => if x13 = true then (some 3) else ((glyph_isLetter.f k x0).bind fun t104 => (if t104 = true then (some 4) else (if x0 > 32 then (if x0 < 127 then (some 5) else (some 6)) else (some 6))))
end
def glyph_Class.f (k : Nat) (a0 : Int) : Option (Int) := if a0 = 9 then (glyph_Class.j0 k a0 (a0 == 9)) else (if a0 = 13 then (glyph_Class.j0 k a0 (a0 == 13)) else (glyph_Class.j0 k a0 (a0 == 32)))
theorem glyph_Class.mono_l : ∀ k, (∀ y0 y1, LeO (glyph_Class.j0 k y0 y1) (glyph_Class.j0 (k + 1) y0 y1)) ∧ (∀ y0 y1, LeO (glyph_Class.j1 k y0 y1) (glyph_Class.j1 (k + 1) y0 y1))
  | 0 => ⟨fun _ _ r h => by simp [glyph_Class.j0] at h, fun _ _ r h => by simp [glyph_Class.j1] at h⟩
  | k + 1 => by
    obtain ⟨ih0, ih1⟩ := glyph_Class.mono_l k
    refine ⟨?_, ?_⟩
    · intro y0 y1
      unfold glyph_Class.j0
      repeat' first
      | (with_reducible exact ih0 _ _)
      | (with_reducible exact ih1 _ _)
      | (with_reducible exact glyph_isLetter.mono _ _)
      | (with_reducible exact LeO.refl _)
      | (with_reducible exact LeO.none _)
      | (with_reducible refine LeO.ite ?_ ?_)
      | (with_reducible refine LeO.bind ?_ (fun _ => ?_))
      | exact ih0 _ _
      | exact ih1 _ _
      | exact glyph_isLetter.mono _ _
      | exact LeO.none _
      | refine LeO.ite ?_ ?_
      | refine LeO.bind ?_ (fun _ => ?_)
    · intro y0 y1
      unfold glyph_Class.j1
      repeat' first
      | (with_reducible exact ih0 _ _)
      | (with_reducible exact ih1 _ _)
      | (with_reducible exact glyph_isLetter.mono _ _)
      | (with_reducible exact LeO.refl _)
      | (with_reducible exact LeO.none _)
      | (with_reducible refine LeO.ite ?_ ?_)
      | (with_reducible refine LeO.bind ?_ (fun _ => ?_))
      | exact ih0 _ _
      | exact ih1 _ _
      | exact glyph_isLetter.mono _ _
      | exact LeO.none _
      | refine LeO.ite ?_ ?_
      | refine LeO.bind ?_ (fun _ => ?_)
theorem glyph_Class.mono : ∀ a0 k, LeO (glyph_Class.f k a0) (glyph_Class.f (k + 1) a0) := by
  intro a0 k
  obtain ⟨ih0, ih1⟩ := glyph_Class.mono_l k
  unfold glyph_Class.f
  repeat' first
      | (with_reducible exact ih0 _ _)
      | (with_reducible exact ih1 _ _)
      | (with_reducible exact glyph_isLetter.mono _ _)
      | (with_reducible exact LeO.refl _)
      | (with_reducible exact LeO.none _)
      | (with_reducible refine LeO.ite ?_ ?_)
      | (with_reducible refine LeO.bind ?_ (fun _ => ?_))
      | exact ih0 _ _
      | exact ih1 _ _
      | exact glyph_isLetter.mono _ _
      | exact LeO.none _
      | refine LeO.ite ?_ ?_
      | refine LeO.bind ?_ (fun _ => ?_)
set_option maxHeartbeats 8000000 in
set_option maxRecDepth 100000 in
theorem glyph_Class.calls (k : Nat) (a0 : Int) (r : Int) (w : World) (h : glyph_Class.f k a0 = some r) :
    Calls Tryd.prog 14 #[.int .i32 a0] w fun e w' => e = .returned (.int .i64 r) ∧ Drawn0 w w' := by
  have H : (if a0 = 9 then (glyph_Class.j0 k a0 (a0 == 9)) else (if a0 = 13 then (glyph_Class.j0 k a0 (a0 == 13)) else (glyph_Class.j0 k a0 (a0 == 32)))) = some r := h
  clear h
  have HC2 := Aside0.mk H
  clear H
  go_enter Tryd.func14, Tryd.ntmps14
  go_upto_if 3 with (fail)
  go_cut [3] (fun v3 wc => ∃ (kq : Nat) (x3_1 : Bool), v3 = .bool x3_1 ∧ Aside0 (glyph_Class.j0 kq a0 x3_1 = some r) ∧ Aside0 (kq ≤ k) ∧ Drawn0 w wc)
  case first =>
    have H := HC2.out
    clear HC2
    by_cases c3 : a0 = 9
    · rw [if_pos c3] at H
      have c3b0 : (a0 == 9) = true := beq_iff_eq.mpr c3
      have c3b1 : (a0 != 9) = false := bne_eq_false_iff_eq.mpr c3
      clear c3
      (first | rw [c3b0] | (simp only [i64_w, i32_w]; rw [c3b0]) | skip)
      have H' := Aside0.mk H
      clear H
      go_wp2
      go_meet
      case rel => exact ⟨_, ((a0 == 9)), (by first | rfl | (simp; done) | (simp [*]; done)), H', ⟨by first | omega | exact Nat.le_refl _⟩, by repeat (first | exact Drawn0.refl _ | apply Drawn0.step)⟩
    · rw [if_neg c3] at H
      have c3b0 : (a0 == 9) = false := beq_eq_false_iff_ne.mpr c3
      have c3b1 : (a0 != 9) = true := bne_iff_ne.mpr c3
      (first | rw [c3b0] | (simp only [i64_w, i32_w]; rw [c3b0]) | skip)
      by_cases c4 : a0 = 13
      · rw [if_pos c4] at H
        have c4b0 : (a0 == 13) = true := beq_iff_eq.mpr c4
        have c4b1 : (a0 != 13) = false := bne_eq_false_iff_eq.mpr c4
        clear c4
        have H' := Aside0.mk H
        clear H
        go_wp2
        go_meet
        case rel => exact ⟨_, ((a0 == 13)), (by first | rfl | (simp; done) | (simp [*]; done)), H', ⟨by first | omega | exact Nat.le_refl _⟩, by repeat (first | exact Drawn0.refl _ | apply Drawn0.step)⟩
      · rw [if_neg c4] at H
        have c4b0 : (a0 == 13) = false := beq_eq_false_iff_ne.mpr c4
        have c4b1 : (a0 != 13) = true := bne_iff_ne.mpr c4
        have H' := Aside0.mk H
        clear H
        go_wp2
        go_meet
        case rel => exact ⟨_, ((a0 == 32)), (by first | rfl | (simp; done) | (simp [*]; done)), H', ⟨by first | omega | exact Nat.le_refl _⟩, by repeat (first | exact Drawn0.refl _ | apply Drawn0.step)⟩
  case rest =>
    clear HC2
    try clear c1
    try clear p2
    try clear c3
    try clear c3b0
    try clear c3b1
    try clear c4
    try clear c4b0
    try clear c4b1
    obtain ⟨kq, x3_1, rfl, HA, HJ1, ⟨mc1, rfl⟩⟩ := hcut
    cases kq with
    | zero => exact absurd HA.out (by simp [glyph_Class.j0])
    | succ kj1 =>
      have H := HA.out
      clear HA
      simp only [glyph_Class.j0] at H
      by_cases c5 : x3_1 = true
      · subst c5
        have H1 : (some 1) = some r := by rw [if_pos rfl] at H; exact H
        clear H
        have H := H1
        clear H1
        obtain rfl := Option.some.inj H
        go_wp2
        go_ret
        exact ⟨by first | rfl | (simp; done) | (simp [*]; done), by repeat (first | exact Drawn0.refl _ | apply Drawn0.step)⟩
      · replace c5 := Bool.eq_false_iff.mpr c5
        subst c5
        have H1 : (if a0 = 10 then (some 2) else (if a0 ≥ 48 then (glyph_Class.j1 kj1 a0 (decide (a0 ≤ 57))) else (glyph_Class.j1 kj1 a0 false))) = some r := by rw [if_neg (show ¬ (false = true) by decide)] at H; exact H
        clear H
        have H := H1
        clear H1
        by_cases c6 : a0 = 10
        · rw [if_pos c6] at H
          have c6b0 : (a0 == 10) = true := beq_iff_eq.mpr c6
          have c6b1 : (a0 != 10) = false := bne_eq_false_iff_eq.mpr c6
          clear c6
          obtain rfl := Option.some.inj H
          go_wp2
          go_ret
          exact ⟨by first | rfl | (simp; done) | (simp [*]; done), by repeat (first | exact Drawn0.refl _ | apply Drawn0.step)⟩
        · rw [if_neg c6] at H
          have c6b0 : (a0 == 10) = false := beq_eq_false_iff_ne.mpr c6
          have c6b1 : (a0 != 10) = true := bne_iff_ne.mpr c6
          have HC7 := Aside0.mk H
          clear H
          go_upto_region 7 with (fail)
          go_cut [13] (fun v13 wc => ∃ (kq : Nat) (x13_6 : Bool), v13 = .bool x13_6 ∧ Aside0 (glyph_Class.j1 kq a0 x13_6 = some r) ∧ Aside0 (kq ≤ kj1) ∧ Drawn0 w wc)
          case first =>
            have H := HC7.out
            clear HC7
            by_cases c8 : a0 ≥ 48
            · rw [if_pos c8] at H
              have c8b0 : decide (48 ≤ a0) = true := decide_eq_true c8
              clear c8
              (first | rw [c8b0] | (simp only [i64_w, i32_w]; rw [c8b0]) | skip)
              have H' := Aside0.mk H
              clear H
              go_wp2
              go_meet
              case rel => exact ⟨_, (decide (a0 ≤ 57)), (by first | rfl | (simp; done) | (simp [*]; done)), H', ⟨by have := HJ1.out; first | omega | exact Nat.le_refl _⟩, by repeat (first | exact Drawn0.refl _ | apply Drawn0.step)⟩
            · rw [if_neg c8] at H
              have c8b0 : decide (48 ≤ a0) = false := decide_eq_false c8
              clear c8
              (first | rw [c8b0] | (simp only [i64_w, i32_w]; rw [c8b0]) | skip)
              have H' := Aside0.mk H
              clear H
              go_wp2
              go_meet
              case rel => exact ⟨_, (false), (by first | rfl | (simp; done) | (simp [*]; done)), H', ⟨by have := HJ1.out; first | omega | exact Nat.le_refl _⟩, by repeat (first | exact Drawn0.refl _ | apply Drawn0.step)⟩
          case rest =>
            clear HC7
            try clear c1
            try clear p2
            try clear c3
            try clear c3b0
            try clear c3b1
            try clear c4
            try clear c4b0
            try clear c4b1
            try clear c5
            try clear c6
            try clear c6b0
            try clear c6b1
            try clear c8
            try clear c8b0
            try clear p2
            obtain ⟨kq, x13_6, rfl, HA, HJ6, ⟨mc6, rfl⟩⟩ := hcut
            cases kq with
            | zero => exact absurd HA.out (by simp [glyph_Class.j1])
            | succ kj6 =>
              have H := HA.out
              clear HA
              simp only [glyph_Class.j1] at H
              by_cases c9 : x13_6 = true
              · subst c9
                have H1 : (some 3) = some r := by rw [if_pos rfl] at H; exact H
                clear H
                have H := H1
                clear H1
                obtain rfl := Option.some.inj H
                go_wp2
                go_ret
                exact ⟨by first | rfl | (simp; done) | (simp [*]; done), by repeat (first | exact Drawn0.refl _ | apply Drawn0.step)⟩
              · replace c9 := Bool.eq_false_iff.mpr c9
                subst c9
                have H1 : ((glyph_isLetter.f kj6 a0).bind fun t104 => (if t104 = true then (some 4) else (if a0 > 32 then (if a0 < 127 then (some 5) else (some 6)) else (some 6)))) = some r := by rw [if_neg (show ¬ (false = true) by decide)] at H; exact H
                clear H
                have H := H1
                clear H1
                replace H := Option.bind_eq_some_iff.mp H
                obtain ⟨t104, A100, H⟩ := H
                replace H : (if t104 = true then (some 4) else (if a0 > 32 then (if a0 < 127 then (some 5) else (some 6)) else (some 6))) = some r := H
                have A10 := Aside0.mk A100
                clear A100
                by_cases c11 : t104 = true
                · subst c11
                  have H1 : (some 4) = some r := by rw [if_pos rfl] at H; exact H
                  clear H
                  have H := H1
                  clear H1
                  obtain rfl := Option.some.inj H
                  go_wp2_with (first | ((with_reducible refine gate_callee (f := 33) rfl ?_); refine goesL_ (some 22) rfl rfl Tryd.func33 (by kernel_rfl) rfl #[.int .i32 a0] rfl (by (try simp only [List.map_toArray, List.map_cons, List.map_nil]); first | done | rfl | (simp only [List.length_drop, List.length_take]; rfl)) ?_; (with_reducible refine (glyph_isLetter.calls kj6 a0 true _ A10.out).mono ?_); rintro e w' ⟨rfl, ⟨nd, rfl⟩⟩; refine ⟨_, rfl, ?_⟩))
                  go_ret
                  exact ⟨by first | rfl | (simp; done) | (simp [*]; done), by repeat (first | exact Drawn0.refl _ | apply Drawn0.step)⟩
                · replace c11 := Bool.eq_false_iff.mpr c11
                  subst c11
                  have H1 : (if a0 > 32 then (if a0 < 127 then (some 5) else (some 6)) else (some 6)) = some r := by rw [if_neg (show ¬ (false = true) by decide)] at H; exact H
                  clear H
                  have H := H1
                  clear H1
                  by_cases c12 : a0 > 32
                  · rw [if_pos c12] at H
                    have c12b0 : decide (32 < a0) = true := decide_eq_true c12
                    clear c12
                    by_cases c13 : a0 < 127
                    · rw [if_pos c13] at H
                      have c13b0 : decide (a0 < 127) = true := decide_eq_true c13
                      clear c13
                      obtain rfl := Option.some.inj H
                      go_wp2_with (first | ((with_reducible refine gate_callee (f := 33) rfl ?_); refine goesL_ (some 22) rfl rfl Tryd.func33 (by kernel_rfl) rfl #[.int .i32 a0] rfl (by (try simp only [List.map_toArray, List.map_cons, List.map_nil]); first | done | rfl | (simp only [List.length_drop, List.length_take]; rfl)) ?_; (with_reducible refine (glyph_isLetter.calls kj6 a0 false _ A10.out).mono ?_); rintro e w' ⟨rfl, ⟨nd, rfl⟩⟩; refine ⟨_, rfl, ?_⟩))
                      go_ret
                      exact ⟨by first | rfl | (simp; done) | (simp [*]; done), by repeat (first | exact Drawn0.refl _ | apply Drawn0.step)⟩
                    · rw [if_neg c13] at H
                      have c13b0 : decide (a0 < 127) = false := decide_eq_false c13
                      clear c13
                      obtain rfl := Option.some.inj H
                      go_wp2_with (first | ((with_reducible refine gate_callee (f := 33) rfl ?_); refine goesL_ (some 22) rfl rfl Tryd.func33 (by kernel_rfl) rfl #[.int .i32 a0] rfl (by (try simp only [List.map_toArray, List.map_cons, List.map_nil]); first | done | rfl | (simp only [List.length_drop, List.length_take]; rfl)) ?_; (with_reducible refine (glyph_isLetter.calls kj6 a0 false _ A10.out).mono ?_); rintro e w' ⟨rfl, ⟨nd, rfl⟩⟩; refine ⟨_, rfl, ?_⟩))
                      go_ret
                      exact ⟨by first | rfl | (simp; done) | (simp [*]; done), by repeat (first | exact Drawn0.refl _ | apply Drawn0.step)⟩
                  · rw [if_neg c12] at H
                    have c12b0 : decide (32 < a0) = false := decide_eq_false c12
                    clear c12
                    obtain rfl := Option.some.inj H
                    go_wp2_with (first | ((with_reducible refine gate_callee (f := 33) rfl ?_); refine goesL_ (some 22) rfl rfl Tryd.func33 (by kernel_rfl) rfl #[.int .i32 a0] rfl (by (try simp only [List.map_toArray, List.map_cons, List.map_nil]); first | done | rfl | (simp only [List.length_drop, List.length_take]; rfl)) ?_; (with_reducible refine (glyph_isLetter.calls kj6 a0 false _ A10.out).mono ?_); rintro e w' ⟨rfl, ⟨nd, rfl⟩⟩; refine ⟨_, rfl, ?_⟩))
                    go_ret
                    exact ⟨by first | rfl | (simp; done) | (simp [*]; done), by repeat (first | exact Drawn0.refl _ | apply Drawn0.step)⟩

-- NOT PRINTED: function 6 (roster_Read)

/-! ### earshotref1_more: function 34 -/
def earshotref1_more.f (a0 : ByteArray) (a1 : Int) : Option (Bool) := if a1 < (a0.size : Int) then (if 0 ≤ a1 then (if (bt a0 a1) ≥ 128 then (some (decide ((bt a0 a1) ≤ 191))) else (some false)) else (none)) else (some false)
set_option maxHeartbeats 8000000 in
set_option maxRecDepth 100000 in
theorem earshotref1_more.calls (a0 : ByteArray) (a1 : Int) (r : Bool) (w : World) (h : earshotref1_more.f a0 a1 = some r) :
    Calls Tryd.prog 34 #[.string a0, .int .i64 a1] w fun e w' => e = .returned (.bool r) ∧ Drawn0 w w' := by
  have H : (if a1 < (a0.size : Int) then (if 0 ≤ a1 then (if (bt a0 a1) ≥ 128 then (some (decide ((bt a0 a1) ≤ 191))) else (some false)) else (none)) else (some false)) = some r := h
  clear h
  by_cases c3 : a1 < (a0.size : Int)
  · rw [if_pos c3] at H
    have c3b0 : decide (a1 < (a0.size : Int)) = true := decide_eq_true c3
    clear c3
    by_cases c4 : 0 ≤ a1
    · rw [if_pos c4] at H
      have c4b0 : decide (0 ≤ a1) = true := decide_eq_true c4
      clear c4
      by_cases c6 : (bt a0 a1) ≥ 128
      · rw [if_pos c6] at H
        have c6b0 : decide (128 ≤ (bt a0 a1)) = true := decide_eq_true c6
        clear c6
        obtain rfl := Option.some.inj H
        have p5 : 0 ≤ (a1 : Int) := of_decide_eq_true (by first | (with_reducible assumption) | assumption)
        have q5 : a1 < (a0.size : Int) := of_decide_eq_true (by first | (with_reducible assumption) | assumption)
        have hx5 := bt_at a0 a1
        replace p5 := eq_true p5
        replace q5 := eq_true q5
        have p7 : 0 ≤ (a1 : Int) := of_decide_eq_true (by first | (with_reducible assumption) | assumption)
        have q7 : a1 < (a0.size : Int) := of_decide_eq_true (by first | (with_reducible assumption) | assumption)
        have hx7 := bt_at a0 a1
        replace p7 := eq_true p7
        replace q7 := eq_true q7
        go_enter Tryd.func34, Tryd.ntmps34
        go_wp2
        go_ret
        exact ⟨by first | rfl | (simp; done) | (simp [*]; done), by repeat (first | exact Drawn0.refl _ | apply Drawn0.step)⟩
      · rw [if_neg c6] at H
        have c6b0 : decide (128 ≤ (bt a0 a1)) = false := decide_eq_false c6
        clear c6
        obtain rfl := Option.some.inj H
        have p5 : 0 ≤ (a1 : Int) := of_decide_eq_true (by first | (with_reducible assumption) | assumption)
        have q5 : a1 < (a0.size : Int) := of_decide_eq_true (by first | (with_reducible assumption) | assumption)
        have hx5 := bt_at a0 a1
        replace p5 := eq_true p5
        replace q5 := eq_true q5
        go_enter Tryd.func34, Tryd.ntmps34
        go_wp2
        go_ret
        exact ⟨by first | rfl | (simp; done) | (simp [*]; done), by repeat (first | exact Drawn0.refl _ | apply Drawn0.step)⟩
    · rw [if_neg c4] at H
      exact absurd H (by simp)
  · rw [if_neg c3] at H
    have c3b0 : decide (a1 < (a0.size : Int)) = false := decide_eq_false c3
    clear c3
    obtain rfl := Option.some.inj H
    go_enter Tryd.func34, Tryd.ntmps34
    go_wp2
    go_ret
    exact ⟨by first | rfl | (simp; done) | (simp [*]; done), by repeat (first | exact Drawn0.refl _ | apply Drawn0.step)⟩

end Go.Proofs.YtgohhallpkknfaaDoor.PNoticeReads
