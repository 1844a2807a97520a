/- Contracts that print.sh wrote: earshotref1_At. -/
import Derived.Test.YtgohhallpkknfaaDoorQr0
import Derived.Test.YtgohhallpkknfaaDoorQr1
namespace Go.Proofs.YtgohhallpkknfaaDoor.PNoticeReads
open Go.RowKit Go.Proofs.YtgohhallpkknfaaDoorW.PrintWords Go.Proofs.YtgohhallpkknfaaDoorW.PrintLast Go.Proofs.YtgohhallpkknfaaDoorW.PrintMore
attribute [local go_sem] max2_int min2_int max_two min_two max_three min_three max_four min_four   -- for this text's walks alone
set_option linter.unusedVariables false
set_option linter.unusedSimpArgs false

/-! ### earshotref1_At: function 15 -/
mutual
def earshotref1_At.j0 : Nat → ByteArray → Int → Int → Bool → Option (Int × Int × Bool)
  | 0, _, _, _, _ => none
  | k + 1, x0, x1, x7, x28 => if x28 = true then (if 0 ≤ (wrap64 (x1 + 1)) then (if (wrap64 (x1 + 1)) < (x0.size : Int) then (some (wrap64 ((wrap64 ((wrap64 ((wrap64 (x7 - 192)) * 64)) + (wrap64 (bt x0 (wrap64 (x1 + 1)))))) - 128), 2, false)) else (none)) else (none)) else (if x7 ≥ 224 then (if x7 ≤ 239 then ((earshotref1_more.f x0 (wrap64 (x1 + 1))).bind fun t106 => (if t106 = true then ((earshotref1_more.f x0 (wrap64 (x1 + 2))).bind fun t107 => (earshotref1_At.j1 k x0 x1 x7 t107)) else (earshotref1_At.j1 k x0 x1 x7 false))) else (earshotref1_At.j1 k x0 x1 x7 false)) else (earshotref1_At.j1 k x0 x1 x7 false))
def earshotref1_At.j1 : Nat → ByteArray → Int → Int → Bool → Option (Int × Int × Bool)
  | 0, _, _, _, _ => none
  | k + 1, x0, x1, x7, x56 => if x56 = true then (if 0 ≤ (wrap64 (x1 + 1)) then (if (wrap64 (x1 + 1)) < (x0.size : Int) then (if 0 ≤ (wrap64 (x1 + 2)) then (if (wrap64 (x1 + 2)) < (x0.size : Int) then (if (wrap64 ((wrap64 ((wrap64 ((wrap64 ((wrap64 (x7 - 224)) * 4096)) + (wrap64 ((wrap64 ((wrap64 (bt x0 (wrap64 (x1 + 1)))) - 128)) * 64)))) + (wrap64 (bt x0 (wrap64 (x1 + 2)))))) - 128)) ≥ 2048 then (if (wrap64 ((wrap64 ((wrap64 ((wrap64 ((wrap64 (x7 - 224)) * 4096)) + (wrap64 ((wrap64 ((wrap64 (bt x0 (wrap64 (x1 + 1)))) - 128)) * 64)))) + (wrap64 (bt x0 (wrap64 (x1 + 2)))))) - 128)) < 55296 then (some (wrap64 ((wrap64 ((wrap64 ((wrap64 ((wrap64 (x7 - 224)) * 4096)) + (wrap64 ((wrap64 ((wrap64 (bt x0 (wrap64 (x1 + 1)))) - 128)) * 64)))) + (wrap64 (bt x0 (wrap64 (x1 + 2)))))) - 128), 3, false)) else (if (wrap64 ((wrap64 ((wrap64 ((wrap64 ((wrap64 (x7 - 224)) * 4096)) + (wrap64 ((wrap64 ((wrap64 (bt x0 (wrap64 (x1 + 1)))) - 128)) * 64)))) + (wrap64 (bt x0 (wrap64 (x1 + 2)))))) - 128)) > 57343 then (some (wrap64 ((wrap64 ((wrap64 ((wrap64 ((wrap64 (x7 - 224)) * 4096)) + (wrap64 ((wrap64 ((wrap64 (bt x0 (wrap64 (x1 + 1)))) - 128)) * 64)))) + (wrap64 (bt x0 (wrap64 (x1 + 2)))))) - 128), 3, false)) else (earshotref1_At.j2 k x0 x1 x7))) else (earshotref1_At.j2 k x0 x1 x7)) else (none)) else (none)) else (none)) else (none)) else (earshotref1_At.j2 k x0 x1 x7)
def earshotref1_At.j2 : Nat → ByteArray → Int → Int → Option (Int × Int × Bool)
  | 0, _, _, _ => none
  | k + 1, x0, x1, x7 => if x7 ≥ 240 then (if x7 ≤ 244 then ((earshotref1_more.f x0 (wrap64 (x1 + 1))).bind fun t108 => (if t108 = true then ((earshotref1_more.f x0 (wrap64 (x1 + 2))).bind fun t109 => (if t109 = true then ((earshotref1_more.f x0 (wrap64 (x1 + 3))).bind fun t110 => (earshotref1_At.j3 k x0 x1 x7 t110)) else (earshotref1_At.j3 k x0 x1 x7 false))) else (earshotref1_At.j3 k x0 x1 x7 false))) else (earshotref1_At.j3 k x0 x1 x7 false)) else (earshotref1_At.j3 k x0 x1 x7 false)
def earshotref1_At.j3 : Nat → ByteArray → Int → Int → Bool → Option (Int × Int × Bool)
  | 0, _, _, _, _ => none
  | k + 1, x0, x1, x7, x109 => if x109 = true then (if 0 ≤ (wrap64 (x1 + 1)) then (if (wrap64 (x1 + 1)) < (x0.size : Int) then (if 0 ≤ (wrap64 (x1 + 2)) then (if (wrap64 (x1 + 2)) < (x0.size : Int) then (if 0 ≤ (wrap64 (x1 + 3)) then (if (wrap64 (x1 + 3)) < (x0.size : Int) then (if (wrap64 ((wrap64 ((wrap64 ((wrap64 ((wrap64 ((wrap64 (x7 - 240)) * 262144)) + (wrap64 ((wrap64 ((wrap64 (bt x0 (wrap64 (x1 + 1)))) - 128)) * 4096)))) + (wrap64 ((wrap64 ((wrap64 (bt x0 (wrap64 (x1 + 2)))) - 128)) * 64)))) + (wrap64 (bt x0 (wrap64 (x1 + 3)))))) - 128)) ≥ 65536 then (if (wrap64 ((wrap64 ((wrap64 ((wrap64 ((wrap64 ((wrap64 (x7 - 240)) * 262144)) + (wrap64 ((wrap64 ((wrap64 (bt x0 (wrap64 (x1 + 1)))) - 128)) * 4096)))) + (wrap64 ((wrap64 ((wrap64 (bt x0 (wrap64 (x1 + 2)))) - 128)) * 64)))) + (wrap64 (bt x0 (wrap64 (x1 + 3)))))) - 128)) ≤ 1114111 then (some (wrap64 ((wrap64 ((wrap64 ((wrap64 ((wrap64 ((wrap64 (x7 - 240)) * 262144)) + (wrap64 ((wrap64 ((wrap64 (bt x0 (wrap64 (x1 + 1)))) - 128)) * 4096)))) + (wrap64 ((wrap64 ((wrap64 (bt x0 (wrap64 (x1 + 2)))) - 128)) * 64)))) + (wrap64 (bt x0 (wrap64 (x1 + 3)))))) - 128), 4, false)) else (some (65533, 1, true))) else (some (65533, 1, true))) else (none)) else (none)) else (none)) else (none)) else (none)) else (none)) else (some (65533, 1, true))
end
def earshotref1_At.f (k : Nat) (a0 : ByteArray) (a1 : Int) : Option (Int × Int × Bool) := if 0 ≤ a1 then (if a1 < (a0.size : Int) then (if (wrap64 (bt a0 a1)) < 128 then (some (wrap64 (bt a0 a1), 1, false)) else (if (wrap64 (bt a0 a1)) ≥ 194 then (if (wrap64 (bt a0 a1)) ≤ 223 then ((earshotref1_more.f a0 (wrap64 (a1 + 1))).bind fun t105 => (earshotref1_At.j0 k a0 a1 (wrap64 (bt a0 a1)) t105)) else (earshotref1_At.j0 k a0 a1 (wrap64 (bt a0 a1)) false)) else (earshotref1_At.j0 k a0 a1 (wrap64 (bt a0 a1)) false))) else (none)) else (none)
theorem earshotref1_At.mono_l : ∀ k, (∀ y0 y1 y2 y3, LeO (earshotref1_At.j0 k y0 y1 y2 y3) (earshotref1_At.j0 (k + 1) y0 y1 y2 y3)) ∧ (∀ y0 y1 y2 y3, LeO (earshotref1_At.j1 k y0 y1 y2 y3) (earshotref1_At.j1 (k + 1) y0 y1 y2 y3)) ∧ (∀ y0 y1 y2, LeO (earshotref1_At.j2 k y0 y1 y2) (earshotref1_At.j2 (k + 1) y0 y1 y2)) ∧ (∀ y0 y1 y2 y3, LeO (earshotref1_At.j3 k y0 y1 y2 y3) (earshotref1_At.j3 (k + 1) y0 y1 y2 y3))
  | 0 => ⟨fun _ _ _ _ r h => by simp [earshotref1_At.j0] at h, fun _ _ _ _ r h => by simp [earshotref1_At.j1] at h, fun _ _ _ r h => by simp [earshotref1_At.j2] at h, fun _ _ _ _ r h => by simp [earshotref1_At.j3] at h⟩
  | k + 1 => by
    obtain ⟨ih0, ih1, ih2, ih3⟩ := earshotref1_At.mono_l k
    refine ⟨?_, ?_, ?_, ?_⟩
    · intro y0 y1 y2 y3
      unfold earshotref1_At.j0
      repeat' first
      | (with_reducible exact ih0 _ _ _ _)
      | (with_reducible exact ih1 _ _ _ _)
      | (with_reducible exact ih2 _ _ _)
      | (with_reducible exact ih3 _ _ _ _)
      | (with_reducible exact LeO.refl _)
      | (with_reducible exact LeO.none _)
      | (with_reducible refine LeO.ite ?_ ?_)
      | (with_reducible refine LeO.bind ?_ (fun _ => ?_))
      | exact ih0 _ _ _ _
      | exact ih1 _ _ _ _
      | exact ih2 _ _ _
      | exact ih3 _ _ _ _
      | exact LeO.none _
      | refine LeO.ite ?_ ?_
      | refine LeO.bind ?_ (fun _ => ?_)
    · intro y0 y1 y2 y3
      unfold earshotref1_At.j1
      repeat' first
      | (with_reducible exact ih0 _ _ _ _)
      | (with_reducible exact ih1 _ _ _ _)
      | (with_reducible exact ih2 _ _ _)
      | (with_reducible exact ih3 _ _ _ _)
      | (with_reducible exact LeO.refl _)
      | (with_reducible exact LeO.none _)
      | (with_reducible refine LeO.ite ?_ ?_)
      | (with_reducible refine LeO.bind ?_ (fun _ => ?_))
      | exact ih0 _ _ _ _
      | exact ih1 _ _ _ _
      | exact ih2 _ _ _
      | exact ih3 _ _ _ _
      | exact LeO.none _
      | refine LeO.ite ?_ ?_
      | refine LeO.bind ?_ (fun _ => ?_)
    · intro y0 y1 y2
      unfold earshotref1_At.j2
      repeat' first
      | (with_reducible exact ih0 _ _ _ _)
      | (with_reducible exact ih1 _ _ _ _)
      | (with_reducible exact ih2 _ _ _)
      | (with_reducible exact ih3 _ _ _ _)
      | (with_reducible exact LeO.refl _)
      | (with_reducible exact LeO.none _)
      | (with_reducible refine LeO.ite ?_ ?_)
      | (with_reducible refine LeO.bind ?_ (fun _ => ?_))
      | exact ih0 _ _ _ _
      | exact ih1 _ _ _ _
      | exact ih2 _ _ _
      | exact ih3 _ _ _ _
      | exact LeO.none _
      | refine LeO.ite ?_ ?_
      | refine LeO.bind ?_ (fun _ => ?_)
    · intro y0 y1 y2 y3
      unfold earshotref1_At.j3
      repeat' first
      | (with_reducible exact ih0 _ _ _ _)
      | (with_reducible exact ih1 _ _ _ _)
      | (with_reducible exact ih2 _ _ _)
      | (with_reducible exact ih3 _ _ _ _)
      | (with_reducible exact LeO.refl _)
      | (with_reducible exact LeO.none _)
      | (with_reducible refine LeO.ite ?_ ?_)
      | (with_reducible refine LeO.bind ?_ (fun _ => ?_))
      | exact ih0 _ _ _ _
      | exact ih1 _ _ _ _
      | exact ih2 _ _ _
      | exact ih3 _ _ _ _
      | exact LeO.none _
      | refine LeO.ite ?_ ?_
      | refine LeO.bind ?_ (fun _ => ?_)
theorem earshotref1_At.mono : ∀ a0 a1 k, LeO (earshotref1_At.f k a0 a1) (earshotref1_At.f (k + 1) a0 a1) := by
  intro a0 a1 k
  obtain ⟨ih0, ih1, ih2, ih3⟩ := earshotref1_At.mono_l k
  unfold earshotref1_At.f
  repeat' first
      | (with_reducible exact ih0 _ _ _ _)
      | (with_reducible exact ih1 _ _ _ _)
      | (with_reducible exact ih2 _ _ _)
      | (with_reducible exact ih3 _ _ _ _)
      | (with_reducible exact LeO.refl _)
      | (with_reducible exact LeO.none _)
      | (with_reducible refine LeO.ite ?_ ?_)
      | (with_reducible refine LeO.bind ?_ (fun _ => ?_))
      | exact ih0 _ _ _ _
      | exact ih1 _ _ _ _
      | exact ih2 _ _ _
      | exact ih3 _ _ _ _
      | exact LeO.none _
      | refine LeO.ite ?_ ?_
      | refine LeO.bind ?_ (fun _ => ?_)
set_option maxHeartbeats 8000000 in
set_option maxRecDepth 100000 in
theorem earshotref1_At.calls (k : Nat) (a0 : ByteArray) (a1 : Int) (r1 : Int) (r2 : Int) (r3 : Bool) (w : World) (h : earshotref1_At.f k a0 a1 = some (r1, r2, r3)) :
    Calls Tryd.prog 15 #[.string a0, .int .i64 a1] w fun e w' => e = .returned (.tuple #[.int .i64 r1, .int .i64 r2, .bool r3]) ∧ Drawn0 w w' := by
  have H : (if 0 ≤ a1 then (if a1 < (a0.size : Int) then (if (wrap64 (bt a0 a1)) < 128 then (some (wrap64 (bt a0 a1), 1, false)) else (if (wrap64 (bt a0 a1)) ≥ 194 then (if (wrap64 (bt a0 a1)) ≤ 223 then ((earshotref1_more.f a0 (wrap64 (a1 + 1))).bind fun t105 => (earshotref1_At.j0 k a0 a1 (wrap64 (bt a0 a1)) t105)) else (earshotref1_At.j0 k a0 a1 (wrap64 (bt a0 a1)) false)) else (earshotref1_At.j0 k a0 a1 (wrap64 (bt a0 a1)) false))) else (none)) else (none)) = some (r1, r2, r3) := h
  clear h
  by_cases c3 : 0 ≤ a1
  · rw [if_pos c3] at H
    have c3b0 : decide (0 ≤ a1) = true := decide_eq_true c3
    clear c3
    by_cases c4 : a1 < (a0.size : Int)
    · rw [if_pos c4] at H
      have c4b0 : decide (a1 < (a0.size : Int)) = true := decide_eq_true c4
      clear c4
      by_cases c6 : (wrap64 (bt a0 a1)) < 128
      · rw [if_pos c6] at H
        have c6b0 : decide ((wrap64 (bt a0 a1)) < 128) = true := decide_eq_true c6
        clear c6
        simp only [Option.some.injEq, Prod.mk.injEq] at H
        obtain ⟨rfl, rfl, rfl⟩ := H
        have p5 : 0 ≤ (a1 : Int) := of_decide_eq_true (by first | (with_reducible assumption) | assumption)
        have q5 : a1 < (a0.size : Int) := of_decide_eq_true (by first | (with_reducible assumption) | assumption)
        have hx5 := bt_at a0 a1
        replace p5 := eq_true p5
        replace q5 := eq_true q5
        go_enter Tryd.func15, Tryd.ntmps15
        go_wp2
        repeat (go_quiet (fail); try go_wp2)
        go_ret3
        exact ⟨by first | rfl | (simp; done) | (simp [*]; done), by repeat (first | exact Drawn0.refl _ | apply Drawn0.step)⟩
      · rw [if_neg c6] at H
        have c6b0 : decide ((wrap64 (bt a0 a1)) < 128) = false := decide_eq_false c6
        clear c6
        have HC7 := Aside0.mk H
        clear H
        have p5 : 0 ≤ (a1 : Int) := of_decide_eq_true (by first | (with_reducible assumption) | assumption)
        have q5 : a1 < (a0.size : Int) := of_decide_eq_true (by first | (with_reducible assumption) | assumption)
        have hx5 := bt_at a0 a1
        replace p5 := eq_true p5
        replace q5 := eq_true q5
        go_enter Tryd.func15, Tryd.ntmps15
        go_upto_region 4 with (fail)
        repeat (go_quiet (fail); go_upto_region 4 with (fail))
        go_cut [28] (fun v28 wc => ∃ (kq : Nat) (x28_6 : Bool), v28 = .bool x28_6 ∧ Aside0 (earshotref1_At.j0 kq a0 a1 (wrap64 (bt a0 a1)) x28_6 = some (r1, r2, r3)) ∧ Aside0 (kq ≤ k) ∧ Drawn0 w wc)
        case first =>
          have H := HC7.out
          clear HC7
          by_cases c8 : (wrap64 (bt a0 a1)) ≥ 194
          · rw [if_pos c8] at H
            have c8b0 : decide (194 ≤ (wrap64 (bt a0 a1))) = true := decide_eq_true c8
            clear c8
            (first | rw [c8b0] | (simp only [i64_w, i32_w]; rw [c8b0]) | skip)
            by_cases c9 : (wrap64 (bt a0 a1)) ≤ 223
            · rw [if_pos c9] at H
              have c9b0 : decide ((wrap64 (bt a0 a1)) ≤ 223) = true := decide_eq_true c9
              clear c9
              replace H := Option.bind_eq_some_iff.mp H
              obtain ⟨t105, A100, H⟩ := H
              replace H : (earshotref1_At.j0 k a0 a1 (wrap64 (bt a0 a1)) t105) = some (r1, r2, r3) := H
              have A10 := Aside0.mk A100
              clear A100
              have H' := Aside0.mk H
              clear H
              go_wp2_with (first | (go_at_call 34; (with_reducible refine (earshotref1_more.calls a0 (wrap64 (a1 + 1)) t105 _ A10.out).mono ?_); rintro e w' ⟨rfl, ⟨nd, rfl⟩⟩; (try first | exact ⟨rfl, _, World.drewN_drewN _ _ _⟩ | exact ⟨rfl, _, Eq.trans (World.drewN_drewN _ _ _) (congrArg (World.drewN _) (Nat.add_assoc _ _ _))⟩)))
              repeat (go_quiet (first | (go_at_call 34; (with_reducible refine (earshotref1_more.calls a0 (wrap64 (a1 + 1)) t105 _ A10.out).mono ?_); rintro e w' ⟨rfl, ⟨nd, rfl⟩⟩; (try first | exact ⟨rfl, _, World.drewN_drewN _ _ _⟩ | exact ⟨rfl, _, Eq.trans (World.drewN_drewN _ _ _) (congrArg (World.drewN _) (Nat.add_assoc _ _ _))⟩))); try go_wp2_with (first | (go_at_call 34; (with_reducible refine (earshotref1_more.calls a0 (wrap64 (a1 + 1)) t105 _ A10.out).mono ?_); rintro e w' ⟨rfl, ⟨nd, rfl⟩⟩; (try first | exact ⟨rfl, _, World.drewN_drewN _ _ _⟩ | exact ⟨rfl, _, Eq.trans (World.drewN_drewN _ _ _) (congrArg (World.drewN _) (Nat.add_assoc _ _ _))⟩))))
              go_meet
              case rel => exact ⟨_, (t105), (by first | rfl | (simp; done) | (simp [*]; done)), H', ⟨by first | omega | exact Nat.le_refl _⟩, by repeat (first | exact Drawn0.refl _ | apply Drawn0.step)⟩
            · rw [if_neg c9] at H
              have c9b0 : decide ((wrap64 (bt a0 a1)) ≤ 223) = false := decide_eq_false c9
              clear c9
              have H' := Aside0.mk H
              clear H
              go_wp2
              repeat (go_quiet (fail); try go_wp2)
              go_meet
              case rel => exact ⟨_, (false), (by first | rfl | (simp; done) | (simp [*]; done)), H', ⟨by first | omega | exact Nat.le_refl _⟩, by repeat (first | exact Drawn0.refl _ | apply Drawn0.step)⟩
          · rw [if_neg c8] at H
            have c8b0 : decide (194 ≤ (wrap64 (bt a0 a1))) = false := decide_eq_false c8
            clear c8
            (first | rw [c8b0] | (simp only [i64_w, i32_w]; rw [c8b0]) | skip)
            have H' := Aside0.mk H
            clear H
            go_wp2
            repeat (go_quiet (fail); try go_wp2)
            go_meet
            case rel => exact ⟨_, (false), (by first | rfl | (simp; done) | (simp [*]; done)), H', ⟨by first | omega | exact Nat.le_refl _⟩, by repeat (first | exact Drawn0.refl _ | apply Drawn0.step)⟩
        case rest =>
          clear HC7
          try clear c1
          try clear p2
          try clear c3
          try clear c3b0
          try clear c4
          try clear c4b0
          try clear p5
          try clear q5
          try clear hx5
          try clear c6
          try clear c6b0
          try clear p6
          try clear c8
          try clear c8b0
          try clear c9
          try clear c9b0
          try clear p5
          try clear q5
          obtain ⟨kq, x28_6, rfl, HA, HJ6, ⟨mc6, rfl⟩⟩ := hcut
          cases kq with
          | zero => exact absurd HA.out (by simp [earshotref1_At.j0])
          | succ kj6 =>
            have H := HA.out
            clear HA
            simp only [earshotref1_At.j0] at H
            by_cases c11 : x28_6 = true
            · subst c11
              have H1 : (if 0 ≤ (wrap64 (a1 + 1)) then (if (wrap64 (a1 + 1)) < (a0.size : Int) then (some (wrap64 ((wrap64 ((wrap64 ((wrap64 ((wrap64 (bt a0 a1)) - 192)) * 64)) + (wrap64 (bt a0 (wrap64 (a1 + 1)))))) - 128), 2, false)) else (none)) else (none)) = some (r1, r2, r3) := by rw [if_pos rfl] at H; exact H
              clear H
              have H := H1
              clear H1
              obtain ⟨ji12, hji12⟩ : ∃ j_ : Int, (wrap64 (a1 + 1)) = j_ := ⟨_, rfl⟩
              replace H : (if 0 ≤ (ji12) then (if (ji12) < (a0.size : Int) then (some (wrap64 ((wrap64 ((wrap64 ((wrap64 ((wrap64 (bt a0 a1)) - 192)) * 64)) + (wrap64 (bt a0 (ji12))))) - 128), 2, false)) else (none)) else (none)) = some (r1, r2, r3) := by first | (rw [hji12] at H; exact H) | (simp only [hji12] at H ⊢; exact H)
              have hji12w : (IntKind.i64.wrap (a1 + 1)) = ji12 := (i64_w _).trans hji12
              by_cases c13 : 0 ≤ (ji12)
              · rw [if_pos c13] at H
                have c13b0 : decide (0 ≤ (ji12)) = true := decide_eq_true c13
                clear c13
                by_cases c14 : (ji12) < (a0.size : Int)
                · rw [if_pos c14] at H
                  have c14b0 : decide ((ji12) < (a0.size : Int)) = true := decide_eq_true c14
                  clear c14
                  simp only [Option.some.injEq, Prod.mk.injEq] at H
                  obtain ⟨rfl, rfl, rfl⟩ := H
                  have p15 : 0 ≤ ((ji12) : Int) := of_decide_eq_true (by first | (with_reducible assumption) | assumption)
                  have q15 : (ji12) < (a0.size : Int) := of_decide_eq_true (by first | (with_reducible assumption) | assumption)
                  have hx15 := bt_at a0 (ji12)
                  replace p15 := eq_true p15
                  replace q15 := eq_true q15
                  go_wp2
                  repeat (go_quiet (fail); try go_wp2)
                  go_ret3
                  exact ⟨by first | rfl | (simp; done) | (simp only [← hji12] <;> (first | rfl | simp)) | (simp [*]; done), by repeat (first | exact Drawn0.refl _ | apply Drawn0.step)⟩
                · rw [if_neg c14] at H
                  exact absurd H (by simp)
              · rw [if_neg c13] at H
                exact absurd H (by simp)
            · replace c11 := Bool.eq_false_iff.mpr c11
              subst c11
              have H1 : (if (wrap64 (bt a0 a1)) ≥ 224 then (if (wrap64 (bt a0 a1)) ≤ 239 then ((earshotref1_more.f a0 (wrap64 (a1 + 1))).bind fun t106 => (if t106 = true then ((earshotref1_more.f a0 (wrap64 (a1 + 2))).bind fun t107 => (earshotref1_At.j1 kj6 a0 a1 (wrap64 (bt a0 a1)) t107)) else (earshotref1_At.j1 kj6 a0 a1 (wrap64 (bt a0 a1)) false))) else (earshotref1_At.j1 kj6 a0 a1 (wrap64 (bt a0 a1)) false)) else (earshotref1_At.j1 kj6 a0 a1 (wrap64 (bt a0 a1)) false)) = some (r1, r2, r3) := by rw [if_neg (show ¬ (false = true) by decide)] at H; exact H
              clear H
              have H := H1
              clear H1
              have HC16 := Aside0.mk H
              clear H
              go_upto_region 6 with (fail)
              repeat (go_quiet (fail); go_upto_region 6 with (fail))
              go_cut [56] (fun v56 wc => ∃ (kq : Nat) (x56_15 : Bool), v56 = .bool x56_15 ∧ Aside0 (earshotref1_At.j1 kq a0 a1 (wrap64 (bt a0 a1)) x56_15 = some (r1, r2, r3)) ∧ Aside0 (kq ≤ kj6) ∧ Drawn0 w wc)
              case first =>
                have H := HC16.out
                clear HC16
                by_cases c17 : (wrap64 (bt a0 a1)) ≥ 224
                · rw [if_pos c17] at H
                  have c17b0 : decide (224 ≤ (wrap64 (bt a0 a1))) = true := decide_eq_true c17
                  clear c17
                  (first | rw [c17b0] | (simp only [i64_w, i32_w]; rw [c17b0]) | skip)
                  by_cases c18 : (wrap64 (bt a0 a1)) ≤ 239
                  · rw [if_pos c18] at H
                    have c18b0 : decide ((wrap64 (bt a0 a1)) ≤ 239) = true := decide_eq_true c18
                    clear c18
                    replace H := Option.bind_eq_some_iff.mp H
                    obtain ⟨t106, A190, H⟩ := H
                    replace H : (if t106 = true then ((earshotref1_more.f a0 (wrap64 (a1 + 2))).bind fun t107 => (earshotref1_At.j1 kj6 a0 a1 (wrap64 (bt a0 a1)) t107)) else (earshotref1_At.j1 kj6 a0 a1 (wrap64 (bt a0 a1)) false)) = some (r1, r2, r3) := H
                    have A19 := Aside0.mk A190
                    clear A190
                    by_cases c20 : t106 = true
                    · subst c20
                      have H1 : ((earshotref1_more.f a0 (wrap64 (a1 + 2))).bind fun t107 => (earshotref1_At.j1 kj6 a0 a1 (wrap64 (bt a0 a1)) t107)) = some (r1, r2, r3) := by rw [if_pos rfl] at H; exact H
                      clear H
                      have H := H1
                      clear H1
                      replace H := Option.bind_eq_some_iff.mp H
                      obtain ⟨t107, A210, H⟩ := H
                      replace H : (earshotref1_At.j1 kj6 a0 a1 (wrap64 (bt a0 a1)) t107) = some (r1, r2, r3) := H
                      have A21 := Aside0.mk A210
                      clear A210
                      have H' := Aside0.mk H
                      clear H
                      go_wp2_with (first | (go_at_call 34; (with_reducible refine (earshotref1_more.calls a0 (wrap64 (a1 + 1)) true _ A19.out).mono ?_); rintro e w' ⟨rfl, ⟨nd, rfl⟩⟩; (try first | exact ⟨rfl, _, World.drewN_drewN _ _ _⟩ | exact ⟨rfl, _, Eq.trans (World.drewN_drewN _ _ _) (congrArg (World.drewN _) (Nat.add_assoc _ _ _))⟩)) | (go_at_call 34; (with_reducible refine (earshotref1_more.calls a0 (wrap64 (a1 + 2)) t107 _ A21.out).mono ?_); rintro e w' ⟨rfl, ⟨nd, rfl⟩⟩; (try first | exact ⟨rfl, _, World.drewN_drewN _ _ _⟩ | exact ⟨rfl, _, Eq.trans (World.drewN_drewN _ _ _) (congrArg (World.drewN _) (Nat.add_assoc _ _ _))⟩)))
                      repeat (go_quiet (first | (go_at_call 34; (with_reducible refine (earshotref1_more.calls a0 (wrap64 (a1 + 1)) true _ A19.out).mono ?_); rintro e w' ⟨rfl, ⟨nd, rfl⟩⟩; (try first | exact ⟨rfl, _, World.drewN_drewN _ _ _⟩ | exact ⟨rfl, _, Eq.trans (World.drewN_drewN _ _ _) (congrArg (World.drewN _) (Nat.add_assoc _ _ _))⟩)) | (go_at_call 34; (with_reducible refine (earshotref1_more.calls a0 (wrap64 (a1 + 2)) t107 _ A21.out).mono ?_); rintro e w' ⟨rfl, ⟨nd, rfl⟩⟩; (try first | exact ⟨rfl, _, World.drewN_drewN _ _ _⟩ | exact ⟨rfl, _, Eq.trans (World.drewN_drewN _ _ _) (congrArg (World.drewN _) (Nat.add_assoc _ _ _))⟩))); try go_wp2_with (first | (go_at_call 34; (with_reducible refine (earshotref1_more.calls a0 (wrap64 (a1 + 1)) true _ A19.out).mono ?_); rintro e w' ⟨rfl, ⟨nd, rfl⟩⟩; (try first | exact ⟨rfl, _, World.drewN_drewN _ _ _⟩ | exact ⟨rfl, _, Eq.trans (World.drewN_drewN _ _ _) (congrArg (World.drewN _) (Nat.add_assoc _ _ _))⟩)) | (go_at_call 34; (with_reducible refine (earshotref1_more.calls a0 (wrap64 (a1 + 2)) t107 _ A21.out).mono ?_); rintro e w' ⟨rfl, ⟨nd, rfl⟩⟩; (try first | exact ⟨rfl, _, World.drewN_drewN _ _ _⟩ | exact ⟨rfl, _, Eq.trans (World.drewN_drewN _ _ _) (congrArg (World.drewN _) (Nat.add_assoc _ _ _))⟩))))
                      go_meet
                      case rel => exact ⟨_, (t107), (by first | rfl | (simp; done) | (simp [*]; done)), H', ⟨by have := HJ6.out; first | omega | exact Nat.le_refl _⟩, by repeat (first | exact Drawn0.refl _ | apply Drawn0.step)⟩
                    · replace c20 := Bool.eq_false_iff.mpr c20
                      subst c20
                      have H1 : (earshotref1_At.j1 kj6 a0 a1 (wrap64 (bt a0 a1)) false) = some (r1, r2, r3) := by rw [if_neg (show ¬ (false = true) by decide)] at H; exact H
                      clear H
                      have H := H1
                      clear H1
                      have H' := Aside0.mk H
                      clear H
                      go_wp2_with (first | (go_at_call 34; (with_reducible refine (earshotref1_more.calls a0 (wrap64 (a1 + 1)) false _ A19.out).mono ?_); rintro e w' ⟨rfl, ⟨nd, rfl⟩⟩; (try first | exact ⟨rfl, _, World.drewN_drewN _ _ _⟩ | exact ⟨rfl, _, Eq.trans (World.drewN_drewN _ _ _) (congrArg (World.drewN _) (Nat.add_assoc _ _ _))⟩)))
                      repeat (go_quiet (first | (go_at_call 34; (with_reducible refine (earshotref1_more.calls a0 (wrap64 (a1 + 1)) false _ A19.out).mono ?_); rintro e w' ⟨rfl, ⟨nd, rfl⟩⟩; (try first | exact ⟨rfl, _, World.drewN_drewN _ _ _⟩ | exact ⟨rfl, _, Eq.trans (World.drewN_drewN _ _ _) (congrArg (World.drewN _) (Nat.add_assoc _ _ _))⟩))); try go_wp2_with (first | (go_at_call 34; (with_reducible refine (earshotref1_more.calls a0 (wrap64 (a1 + 1)) false _ A19.out).mono ?_); rintro e w' ⟨rfl, ⟨nd, rfl⟩⟩; (try first | exact ⟨rfl, _, World.drewN_drewN _ _ _⟩ | exact ⟨rfl, _, Eq.trans (World.drewN_drewN _ _ _) (congrArg (World.drewN _) (Nat.add_assoc _ _ _))⟩))))
                      go_meet
                      case rel => exact ⟨_, (false), (by first | rfl | (simp; done) | (simp [*]; done)), H', ⟨by have := HJ6.out; first | omega | exact Nat.le_refl _⟩, by repeat (first | exact Drawn0.refl _ | apply Drawn0.step)⟩
                  · rw [if_neg c18] at H
                    have c18b0 : decide ((wrap64 (bt a0 a1)) ≤ 239) = false := decide_eq_false c18
                    clear c18
                    have H' := Aside0.mk H
                    clear H
                    go_wp2
                    repeat (go_quiet (fail); try go_wp2)
                    go_meet
                    case rel => exact ⟨_, (false), (by first | rfl | (simp; done) | (simp [*]; done)), H', ⟨by have := HJ6.out; first | omega | exact Nat.le_refl _⟩, by repeat (first | exact Drawn0.refl _ | apply Drawn0.step)⟩
                · rw [if_neg c17] at H
                  have c17b0 : decide (224 ≤ (wrap64 (bt a0 a1))) = false := decide_eq_false c17
                  clear c17
                  (first | rw [c17b0] | (simp only [i64_w, i32_w]; rw [c17b0]) | skip)
                  have H' := Aside0.mk H
                  clear H
                  go_wp2
                  repeat (go_quiet (fail); try go_wp2)
                  go_meet
                  case rel => exact ⟨_, (false), (by first | rfl | (simp; done) | (simp [*]; done)), H', ⟨by have := HJ6.out; first | omega | exact Nat.le_refl _⟩, by repeat (first | exact Drawn0.refl _ | apply Drawn0.step)⟩
              case rest =>
                clear HC16
                try clear c1
                try clear p1
                try clear q1
                try clear hx1
                try clear c2
                try clear p2
                try clear c3
                try clear c3b0
                try clear c4
                try clear c4b0
                try clear p5
                try clear q5
                try clear hx5
                try clear c6
                try clear c6b0
                try clear p6
                try clear c8
                try clear c8b0
                try clear c9
                try clear c9b0
                try clear c11
                try clear c13
                try clear c13b0
                try clear c14
                try clear c14b0
                try clear c15
                try clear p15
                try clear q15
                try clear hx15
                try clear c17
                try clear c17b0
                try clear c18
                try clear c18b0
                try clear c20
                try clear p15
                try clear p2
                try clear p5
                try clear p6
                try clear q15
                try clear q5
                obtain ⟨kq, x56_15, rfl, HA, HJ15, ⟨mc15, rfl⟩⟩ := hcut
                cases kq with
                | zero => exact absurd HA.out (by simp [earshotref1_At.j1])
                | succ kj15 =>
                  have H := HA.out
                  clear HA
                  simp only [earshotref1_At.j1] at H
                  have HC22 := Aside0.mk H
                  clear H
                  go_upto_if 56 with (fail)
                  repeat (go_quiet (fail); go_upto_if 56 with (fail))
                  go_cut [] (fun wc => ∃ (kq : Nat), Aside0 (earshotref1_At.j2 kq a0 a1 (wrap64 (bt a0 a1)) = some (r1, r2, r3)) ∧ Aside0 (kq ≤ kj15) ∧ Drawn0 w wc)
                  case first =>
                    have H := HC22.out
                    clear HC22
                    by_cases c23 : x56_15 = true
                    · subst c23
                      have H1 : (if 0 ≤ (wrap64 (a1 + 1)) then (if (wrap64 (a1 + 1)) < (a0.size : Int) then (if 0 ≤ (wrap64 (a1 + 2)) then (if (wrap64 (a1 + 2)) < (a0.size : Int) then (if (wrap64 ((wrap64 ((wrap64 ((wrap64 ((wrap64 ((wrap64 (bt a0 a1)) - 224)) * 4096)) + (wrap64 ((wrap64 ((wrap64 (bt a0 (wrap64 (a1 + 1)))) - 128)) * 64)))) + (wrap64 (bt a0 (wrap64 (a1 + 2)))))) - 128)) ≥ 2048 then (if (wrap64 ((wrap64 ((wrap64 ((wrap64 ((wrap64 ((wrap64 (bt a0 a1)) - 224)) * 4096)) + (wrap64 ((wrap64 ((wrap64 (bt a0 (wrap64 (a1 + 1)))) - 128)) * 64)))) + (wrap64 (bt a0 (wrap64 (a1 + 2)))))) - 128)) < 55296 then (some (wrap64 ((wrap64 ((wrap64 ((wrap64 ((wrap64 ((wrap64 (bt a0 a1)) - 224)) * 4096)) + (wrap64 ((wrap64 ((wrap64 (bt a0 (wrap64 (a1 + 1)))) - 128)) * 64)))) + (wrap64 (bt a0 (wrap64 (a1 + 2)))))) - 128), 3, false)) else (if (wrap64 ((wrap64 ((wrap64 ((wrap64 ((wrap64 ((wrap64 (bt a0 a1)) - 224)) * 4096)) + (wrap64 ((wrap64 ((wrap64 (bt a0 (wrap64 (a1 + 1)))) - 128)) * 64)))) + (wrap64 (bt a0 (wrap64 (a1 + 2)))))) - 128)) > 57343 then (some (wrap64 ((wrap64 ((wrap64 ((wrap64 ((wrap64 ((wrap64 (bt a0 a1)) - 224)) * 4096)) + (wrap64 ((wrap64 ((wrap64 (bt a0 (wrap64 (a1 + 1)))) - 128)) * 64)))) + (wrap64 (bt a0 (wrap64 (a1 + 2)))))) - 128), 3, false)) else (earshotref1_At.j2 kj15 a0 a1 (wrap64 (bt a0 a1))))) else (earshotref1_At.j2 kj15 a0 a1 (wrap64 (bt a0 a1)))) else (none)) else (none)) else (none)) else (none)) = some (r1, r2, r3) := by rw [if_pos rfl] at H; exact H
                      clear H
                      have H := H1
                      clear H1
                      obtain ⟨ji24, hji24⟩ : ∃ j_ : Int, (wrap64 (a1 + 1)) = j_ := ⟨_, rfl⟩
                      replace H : (if 0 ≤ (ji24) then (if (ji24) < (a0.size : Int) then (if 0 ≤ (wrap64 (a1 + 2)) then (if (wrap64 (a1 + 2)) < (a0.size : Int) then (if (wrap64 ((wrap64 ((wrap64 ((wrap64 ((wrap64 ((wrap64 (bt a0 a1)) - 224)) * 4096)) + (wrap64 ((wrap64 ((wrap64 (bt a0 (ji24))) - 128)) * 64)))) + (wrap64 (bt a0 (wrap64 (a1 + 2)))))) - 128)) ≥ 2048 then (if (wrap64 ((wrap64 ((wrap64 ((wrap64 ((wrap64 ((wrap64 (bt a0 a1)) - 224)) * 4096)) + (wrap64 ((wrap64 ((wrap64 (bt a0 (ji24))) - 128)) * 64)))) + (wrap64 (bt a0 (wrap64 (a1 + 2)))))) - 128)) < 55296 then (some (wrap64 ((wrap64 ((wrap64 ((wrap64 ((wrap64 ((wrap64 (bt a0 a1)) - 224)) * 4096)) + (wrap64 ((wrap64 ((wrap64 (bt a0 (ji24))) - 128)) * 64)))) + (wrap64 (bt a0 (wrap64 (a1 + 2)))))) - 128), 3, false)) else (if (wrap64 ((wrap64 ((wrap64 ((wrap64 ((wrap64 ((wrap64 (bt a0 a1)) - 224)) * 4096)) + (wrap64 ((wrap64 ((wrap64 (bt a0 (ji24))) - 128)) * 64)))) + (wrap64 (bt a0 (wrap64 (a1 + 2)))))) - 128)) > 57343 then (some (wrap64 ((wrap64 ((wrap64 ((wrap64 ((wrap64 ((wrap64 (bt a0 a1)) - 224)) * 4096)) + (wrap64 ((wrap64 ((wrap64 (bt a0 (ji24))) - 128)) * 64)))) + (wrap64 (bt a0 (wrap64 (a1 + 2)))))) - 128), 3, false)) else (earshotref1_At.j2 kj15 a0 a1 (wrap64 (bt a0 a1))))) else (earshotref1_At.j2 kj15 a0 a1 (wrap64 (bt a0 a1)))) else (none)) else (none)) else (none)) else (none)) = some (r1, r2, r3) := by first | (rw [hji24] at H; exact H) | (simp only [hji24] at H ⊢; exact H)
                      have hji24w : (IntKind.i64.wrap (a1 + 1)) = ji24 := (i64_w _).trans hji24
                      by_cases c25 : 0 ≤ (ji24)
                      · rw [if_pos c25] at H
                        have c25b0 : decide (0 ≤ (ji24)) = true := decide_eq_true c25
                        clear c25
                        (first | rw [c25b0] | (simp only [i64_w, i32_w]; rw [c25b0]) | skip)
                        by_cases c26 : (ji24) < (a0.size : Int)
                        · rw [if_pos c26] at H
                          have c26b0 : decide ((ji24) < (a0.size : Int)) = true := decide_eq_true c26
                          clear c26
                          obtain ⟨ji28, hji28⟩ : ∃ j_ : Int, (wrap64 (a1 + 2)) = j_ := ⟨_, rfl⟩
                          replace H : (if 0 ≤ (ji28) then (if (ji28) < (a0.size : Int) then (if (wrap64 ((wrap64 ((wrap64 ((wrap64 ((wrap64 ((wrap64 (bt a0 a1)) - 224)) * 4096)) + (wrap64 ((wrap64 ((wrap64 (bt a0 (ji24))) - 128)) * 64)))) + (wrap64 (bt a0 (ji28))))) - 128)) ≥ 2048 then (if (wrap64 ((wrap64 ((wrap64 ((wrap64 ((wrap64 ((wrap64 (bt a0 a1)) - 224)) * 4096)) + (wrap64 ((wrap64 ((wrap64 (bt a0 (ji24))) - 128)) * 64)))) + (wrap64 (bt a0 (ji28))))) - 128)) < 55296 then (some (wrap64 ((wrap64 ((wrap64 ((wrap64 ((wrap64 ((wrap64 (bt a0 a1)) - 224)) * 4096)) + (wrap64 ((wrap64 ((wrap64 (bt a0 (ji24))) - 128)) * 64)))) + (wrap64 (bt a0 (ji28))))) - 128), 3, false)) else (if (wrap64 ((wrap64 ((wrap64 ((wrap64 ((wrap64 ((wrap64 (bt a0 a1)) - 224)) * 4096)) + (wrap64 ((wrap64 ((wrap64 (bt a0 (ji24))) - 128)) * 64)))) + (wrap64 (bt a0 (ji28))))) - 128)) > 57343 then (some (wrap64 ((wrap64 ((wrap64 ((wrap64 ((wrap64 ((wrap64 (bt a0 a1)) - 224)) * 4096)) + (wrap64 ((wrap64 ((wrap64 (bt a0 (ji24))) - 128)) * 64)))) + (wrap64 (bt a0 (ji28))))) - 128), 3, false)) else (earshotref1_At.j2 kj15 a0 a1 (wrap64 (bt a0 a1))))) else (earshotref1_At.j2 kj15 a0 a1 (wrap64 (bt a0 a1)))) else (none)) else (none)) = some (r1, r2, r3) := by first | (rw [hji28] at H; exact H) | (simp only [hji28] at H ⊢; exact H)
                          have hji28w : (IntKind.i64.wrap (a1 + 2)) = ji28 := (i64_w _).trans hji28
                          by_cases c29 : 0 ≤ (ji28)
                          · rw [if_pos c29] at H
                            have c29b0 : decide (0 ≤ (ji28)) = true := decide_eq_true c29
                            clear c29
                            by_cases c30 : (ji28) < (a0.size : Int)
                            · rw [if_pos c30] at H
                              have c30b0 : decide ((ji28) < (a0.size : Int)) = true := decide_eq_true c30
                              clear c30
                              by_cases c32 : (wrap64 ((wrap64 ((wrap64 ((wrap64 ((wrap64 ((wrap64 (bt a0 a1)) - 224)) * 4096)) + (wrap64 ((wrap64 ((wrap64 (bt a0 (ji24))) - 128)) * 64)))) + (wrap64 (bt a0 (ji28))))) - 128)) ≥ 2048
                              · rw [if_pos c32] at H
                                have c32b0 : decide (2048 ≤ (wrap64 ((wrap64 ((wrap64 ((wrap64 ((wrap64 ((wrap64 (bt a0 a1)) - 224)) * 4096)) + (wrap64 ((wrap64 ((wrap64 (bt a0 (ji24))) - 128)) * 64)))) + (wrap64 (bt a0 (ji28))))) - 128))) = true := decide_eq_true c32
                                clear c32
                                by_cases c33 : (wrap64 ((wrap64 ((wrap64 ((wrap64 ((wrap64 ((wrap64 (bt a0 a1)) - 224)) * 4096)) + (wrap64 ((wrap64 ((wrap64 (bt a0 (ji24))) - 128)) * 64)))) + (wrap64 (bt a0 (ji28))))) - 128)) < 55296
                                · rw [if_pos c33] at H
                                  have c33b0 : decide ((wrap64 ((wrap64 ((wrap64 ((wrap64 ((wrap64 ((wrap64 (bt a0 a1)) - 224)) * 4096)) + (wrap64 ((wrap64 ((wrap64 (bt a0 (ji24))) - 128)) * 64)))) + (wrap64 (bt a0 (ji28))))) - 128)) < 55296) = true := decide_eq_true c33
                                  clear c33
                                  simp only [Option.some.injEq, Prod.mk.injEq] at H
                                  obtain ⟨rfl, rfl, rfl⟩ := H
                                  have p27 : 0 ≤ ((ji24) : Int) := of_decide_eq_true (by first | (with_reducible assumption) | assumption)
                                  have q27 : (ji24) < (a0.size : Int) := of_decide_eq_true (by first | (with_reducible assumption) | assumption)
                                  have hx27 := bt_at a0 (ji24)
                                  replace p27 := eq_true p27
                                  replace q27 := eq_true q27
                                  have p31 : 0 ≤ ((ji28) : Int) := of_decide_eq_true (by first | (with_reducible assumption) | assumption)
                                  have q31 : (ji28) < (a0.size : Int) := of_decide_eq_true (by first | (with_reducible assumption) | assumption)
                                  have hx31 := bt_at a0 (ji28)
                                  replace p31 := eq_true p31
                                  replace q31 := eq_true q31
                                  go_wp2
                                  repeat (go_quiet (fail); try go_wp2)
                                  go_ret3
                                  exact ⟨by first | rfl | (simp; done) | (simp only [← hji24, ← hji28] <;> (first | rfl | simp)) | (simp [*]; done), by repeat (first | exact Drawn0.refl _ | apply Drawn0.step)⟩
                                · rw [if_neg c33] at H
                                  have c33b0 : decide ((wrap64 ((wrap64 ((wrap64 ((wrap64 ((wrap64 ((wrap64 (bt a0 a1)) - 224)) * 4096)) + (wrap64 ((wrap64 ((wrap64 (bt a0 (ji24))) - 128)) * 64)))) + (wrap64 (bt a0 (ji28))))) - 128)) < 55296) = false := decide_eq_false c33
                                  clear c33
                                  by_cases c34 : (wrap64 ((wrap64 ((wrap64 ((wrap64 ((wrap64 ((wrap64 (bt a0 a1)) - 224)) * 4096)) + (wrap64 ((wrap64 ((wrap64 (bt a0 (ji24))) - 128)) * 64)))) + (wrap64 (bt a0 (ji28))))) - 128)) > 57343
                                  · rw [if_pos c34] at H
                                    have c34b0 : decide (57343 < (wrap64 ((wrap64 ((wrap64 ((wrap64 ((wrap64 ((wrap64 (bt a0 a1)) - 224)) * 4096)) + (wrap64 ((wrap64 ((wrap64 (bt a0 (ji24))) - 128)) * 64)))) + (wrap64 (bt a0 (ji28))))) - 128))) = true := decide_eq_true c34
                                    clear c34
                                    simp only [Option.some.injEq, Prod.mk.injEq] at H
                                    obtain ⟨rfl, rfl, rfl⟩ := H
                                    have p27 : 0 ≤ ((ji24) : Int) := of_decide_eq_true (by first | (with_reducible assumption) | assumption)
                                    have q27 : (ji24) < (a0.size : Int) := of_decide_eq_true (by first | (with_reducible assumption) | assumption)
                                    have hx27 := bt_at a0 (ji24)
                                    replace p27 := eq_true p27
                                    replace q27 := eq_true q27
                                    have p31 : 0 ≤ ((ji28) : Int) := of_decide_eq_true (by first | (with_reducible assumption) | assumption)
                                    have q31 : (ji28) < (a0.size : Int) := of_decide_eq_true (by first | (with_reducible assumption) | assumption)
                                    have hx31 := bt_at a0 (ji28)
                                    replace p31 := eq_true p31
                                    replace q31 := eq_true q31
                                    go_wp2
                                    repeat (go_quiet (fail); try go_wp2)
                                    go_ret3
                                    exact ⟨by first | rfl | (simp; done) | (simp only [← hji24, ← hji28] <;> (first | rfl | simp)) | (simp [*]; done), by repeat (first | exact Drawn0.refl _ | apply Drawn0.step)⟩
                                  · rw [if_neg c34] at H
                                    have c34b0 : decide (57343 < (wrap64 ((wrap64 ((wrap64 ((wrap64 ((wrap64 ((wrap64 (bt a0 a1)) - 224)) * 4096)) + (wrap64 ((wrap64 ((wrap64 (bt a0 (ji24))) - 128)) * 64)))) + (wrap64 (bt a0 (ji28))))) - 128))) = false := decide_eq_false c34
                                    clear c34
                                    have H' := Aside0.mk H
                                    clear H
                                    have p27 : 0 ≤ ((ji24) : Int) := of_decide_eq_true (by first | (with_reducible assumption) | assumption)
                                    have q27 : (ji24) < (a0.size : Int) := of_decide_eq_true (by first | (with_reducible assumption) | assumption)
                                    have hx27 := bt_at a0 (ji24)
                                    replace p27 := eq_true p27
                                    replace q27 := eq_true q27
                                    have p31 : 0 ≤ ((ji28) : Int) := of_decide_eq_true (by first | (with_reducible assumption) | assumption)
                                    have q31 : (ji28) < (a0.size : Int) := of_decide_eq_true (by first | (with_reducible assumption) | assumption)
                                    have hx31 := bt_at a0 (ji28)
                                    replace p31 := eq_true p31
                                    replace q31 := eq_true q31
                                    go_wp2
                                    repeat (go_quiet (fail); try go_wp2)
                                    go_meet
                                    case rel => exact ⟨_, H', ⟨by have := HJ6.out; have := HJ15.out; first | omega | exact Nat.le_refl _⟩, by repeat (first | exact Drawn0.refl _ | apply Drawn0.step)⟩
                              · rw [if_neg c32] at H
                                have c32b0 : decide (2048 ≤ (wrap64 ((wrap64 ((wrap64 ((wrap64 ((wrap64 ((wrap64 (bt a0 a1)) - 224)) * 4096)) + (wrap64 ((wrap64 ((wrap64 (bt a0 (ji24))) - 128)) * 64)))) + (wrap64 (bt a0 (ji28))))) - 128))) = false := decide_eq_false c32
                                clear c32
                                have H' := Aside0.mk H
                                clear H
                                have p27 : 0 ≤ ((ji24) : Int) := of_decide_eq_true (by first | (with_reducible assumption) | assumption)
                                have q27 : (ji24) < (a0.size : Int) := of_decide_eq_true (by first | (with_reducible assumption) | assumption)
                                have hx27 := bt_at a0 (ji24)
                                replace p27 := eq_true p27
                                replace q27 := eq_true q27
                                have p31 : 0 ≤ ((ji28) : Int) := of_decide_eq_true (by first | (with_reducible assumption) | assumption)
                                have q31 : (ji28) < (a0.size : Int) := of_decide_eq_true (by first | (with_reducible assumption) | assumption)
                                have hx31 := bt_at a0 (ji28)
                                replace p31 := eq_true p31
                                replace q31 := eq_true q31
                                go_wp2
                                repeat (go_quiet (fail); try go_wp2)
                                go_meet
                                case rel => exact ⟨_, H', ⟨by have := HJ6.out; have := HJ15.out; first | omega | exact Nat.le_refl _⟩, by repeat (first | exact Drawn0.refl _ | apply Drawn0.step)⟩
                            · rw [if_neg c30] at H
                              exact absurd H (by simp)
                          · rw [if_neg c29] at H
                            exact absurd H (by simp)
                        · rw [if_neg c26] at H
                          exact absurd H (by simp)
                      · rw [if_neg c25] at H
                        exact absurd H (by simp)
                    · replace c23 := Bool.eq_false_iff.mpr c23
                      subst c23
                      have H1 : (earshotref1_At.j2 kj15 a0 a1 (wrap64 (bt a0 a1))) = some (r1, r2, r3) := by rw [if_neg (show ¬ (false = true) by decide)] at H; exact H
                      clear H
                      have H := H1
                      clear H1
                      have H' := Aside0.mk H
                      clear H
                      go_wp2
                      repeat (go_quiet (fail); try go_wp2)
                      go_meet
                      case rel => exact ⟨_, H', ⟨by have := HJ6.out; have := HJ15.out; first | omega | exact Nat.le_refl _⟩, by repeat (first | exact Drawn0.refl _ | apply Drawn0.step)⟩
                  case rest =>
                    clear HC22
                    try clear c1
                    try clear p1
                    try clear q1
                    try clear hx1
                    try clear c2
                    try clear p2
                    try clear q2
                    try clear hx2
                    try clear c3
                    try clear c3b0
                    try clear p3
                    try clear q3
                    try clear hx3
                    try clear c4
                    try clear c4b0
                    try clear p5
                    try clear q5
                    try clear hx5
                    try clear c6
                    try clear c6b0
                    try clear p6
                    try clear c8
                    try clear c8b0
                    try clear c9
                    try clear c9b0
                    try clear c11
                    try clear c13
                    try clear c13b0
                    try clear c14
                    try clear c14b0
                    try clear c15
                    try clear p15
                    try clear q15
                    try clear hx15
                    try clear c17
                    try clear c17b0
                    try clear c18
                    try clear c18b0
                    try clear c20
                    try clear c23
                    try clear c25
                    try clear c25b0
                    try clear c26
                    try clear c26b0
                    try clear p27
                    try clear q27
                    try clear hx27
                    try clear c29
                    try clear c29b0
                    try clear c30
                    try clear c30b0
                    try clear p31
                    try clear q31
                    try clear hx31
                    try clear c32
                    try clear c32b0
                    try clear c33
                    try clear c33b0
                    try clear c34
                    try clear c34b0
                    try clear p1
                    try clear p15
                    try clear p2
                    try clear p27
                    try clear p31
                    try clear p5
                    try clear p6
                    try clear q1
                    try clear q15
                    try clear q27
                    try clear q31
                    try clear q5
                    obtain ⟨kq, HA, HJ21, ⟨mc21, rfl⟩⟩ := hcut
                    cases kq with
                    | zero => exact absurd HA.out (by simp [earshotref1_At.j2])
                    | succ kj21 =>
                      have H := HA.out
                      clear HA
                      simp only [earshotref1_At.j2] at H
                      have HC35 := Aside0.mk H
                      clear H
                      go_upto_region 10 with (fail)
                      repeat (go_quiet (fail); go_upto_region 10 with (fail))
                      go_cut [109] (fun v109 wc => ∃ (kq : Nat) (x109_34 : Bool), v109 = .bool x109_34 ∧ Aside0 (earshotref1_At.j3 kq a0 a1 (wrap64 (bt a0 a1)) x109_34 = some (r1, r2, r3)) ∧ Aside0 (kq ≤ kj21) ∧ Drawn0 w wc)
                      case first =>
                        have H := HC35.out
                        clear HC35
                        by_cases c36 : (wrap64 (bt a0 a1)) ≥ 240
                        · rw [if_pos c36] at H
                          have c36b0 : decide (240 ≤ (wrap64 (bt a0 a1))) = true := decide_eq_true c36
                          clear c36
                          (first | rw [c36b0] | (simp only [i64_w, i32_w]; rw [c36b0]) | skip)
                          by_cases c37 : (wrap64 (bt a0 a1)) ≤ 244
                          · rw [if_pos c37] at H
                            have c37b0 : decide ((wrap64 (bt a0 a1)) ≤ 244) = true := decide_eq_true c37
                            clear c37
                            replace H := Option.bind_eq_some_iff.mp H
                            obtain ⟨t108, A380, H⟩ := H
                            replace H : (if t108 = true then ((earshotref1_more.f a0 (wrap64 (a1 + 2))).bind fun t109 => (if t109 = true then ((earshotref1_more.f a0 (wrap64 (a1 + 3))).bind fun t110 => (earshotref1_At.j3 kj21 a0 a1 (wrap64 (bt a0 a1)) t110)) else (earshotref1_At.j3 kj21 a0 a1 (wrap64 (bt a0 a1)) false))) else (earshotref1_At.j3 kj21 a0 a1 (wrap64 (bt a0 a1)) false)) = some (r1, r2, r3) := H
                            have A38 := Aside0.mk A380
                            clear A380
                            by_cases c39 : t108 = true
                            · subst c39
                              have H1 : ((earshotref1_more.f a0 (wrap64 (a1 + 2))).bind fun t109 => (if t109 = true then ((earshotref1_more.f a0 (wrap64 (a1 + 3))).bind fun t110 => (earshotref1_At.j3 kj21 a0 a1 (wrap64 (bt a0 a1)) t110)) else (earshotref1_At.j3 kj21 a0 a1 (wrap64 (bt a0 a1)) false))) = some (r1, r2, r3) := by rw [if_pos rfl] at H; exact H
                              clear H
                              have H := H1
                              clear H1
                              replace H := Option.bind_eq_some_iff.mp H
                              obtain ⟨t109, A400, H⟩ := H
                              replace H : (if t109 = true then ((earshotref1_more.f a0 (wrap64 (a1 + 3))).bind fun t110 => (earshotref1_At.j3 kj21 a0 a1 (wrap64 (bt a0 a1)) t110)) else (earshotref1_At.j3 kj21 a0 a1 (wrap64 (bt a0 a1)) false)) = some (r1, r2, r3) := H
                              have A40 := Aside0.mk A400
                              clear A400
                              by_cases c41 : t109 = true
                              · subst c41
                                have H1 : ((earshotref1_more.f a0 (wrap64 (a1 + 3))).bind fun t110 => (earshotref1_At.j3 kj21 a0 a1 (wrap64 (bt a0 a1)) t110)) = some (r1, r2, r3) := by rw [if_pos rfl] at H; exact H
                                clear H
                                have H := H1
                                clear H1
                                replace H := Option.bind_eq_some_iff.mp H
                                obtain ⟨t110, A420, H⟩ := H
                                replace H : (earshotref1_At.j3 kj21 a0 a1 (wrap64 (bt a0 a1)) t110) = some (r1, r2, r3) := H
                                have A42 := Aside0.mk A420
                                clear A420
                                have H' := Aside0.mk H
                                clear H
                                go_wp2_with (first | (go_at_call 34; (with_reducible refine (earshotref1_more.calls a0 (wrap64 (a1 + 1)) true _ A38.out).mono ?_); rintro e w' ⟨rfl, ⟨nd, rfl⟩⟩; (try first | exact ⟨rfl, _, World.drewN_drewN _ _ _⟩ | exact ⟨rfl, _, Eq.trans (World.drewN_drewN _ _ _) (congrArg (World.drewN _) (Nat.add_assoc _ _ _))⟩)) | (go_at_call 34; (with_reducible refine (earshotref1_more.calls a0 (wrap64 (a1 + 2)) true _ A40.out).mono ?_); rintro e w' ⟨rfl, ⟨nd, rfl⟩⟩; (try first | exact ⟨rfl, _, World.drewN_drewN _ _ _⟩ | exact ⟨rfl, _, Eq.trans (World.drewN_drewN _ _ _) (congrArg (World.drewN _) (Nat.add_assoc _ _ _))⟩)) | (go_at_call 34; (with_reducible refine (earshotref1_more.calls a0 (wrap64 (a1 + 3)) t110 _ A42.out).mono ?_); rintro e w' ⟨rfl, ⟨nd, rfl⟩⟩; (try first | exact ⟨rfl, _, World.drewN_drewN _ _ _⟩ | exact ⟨rfl, _, Eq.trans (World.drewN_drewN _ _ _) (congrArg (World.drewN _) (Nat.add_assoc _ _ _))⟩)))
                                repeat (go_quiet (first | (go_at_call 34; (with_reducible refine (earshotref1_more.calls a0 (wrap64 (a1 + 1)) true _ A38.out).mono ?_); rintro e w' ⟨rfl, ⟨nd, rfl⟩⟩; (try first | exact ⟨rfl, _, World.drewN_drewN _ _ _⟩ | exact ⟨rfl, _, Eq.trans (World.drewN_drewN _ _ _) (congrArg (World.drewN _) (Nat.add_assoc _ _ _))⟩)) | (go_at_call 34; (with_reducible refine (earshotref1_more.calls a0 (wrap64 (a1 + 2)) true _ A40.out).mono ?_); rintro e w' ⟨rfl, ⟨nd, rfl⟩⟩; (try first | exact ⟨rfl, _, World.drewN_drewN _ _ _⟩ | exact ⟨rfl, _, Eq.trans (World.drewN_drewN _ _ _) (congrArg (World.drewN _) (Nat.add_assoc _ _ _))⟩)) | (go_at_call 34; (with_reducible refine (earshotref1_more.calls a0 (wrap64 (a1 + 3)) t110 _ A42.out).mono ?_); rintro e w' ⟨rfl, ⟨nd, rfl⟩⟩; (try first | exact ⟨rfl, _, World.drewN_drewN _ _ _⟩ | exact ⟨rfl, _, Eq.trans (World.drewN_drewN _ _ _) (congrArg (World.drewN _) (Nat.add_assoc _ _ _))⟩))); try go_wp2_with (first | (go_at_call 34; (with_reducible refine (earshotref1_more.calls a0 (wrap64 (a1 + 1)) true _ A38.out).mono ?_); rintro e w' ⟨rfl, ⟨nd, rfl⟩⟩; (try first | exact ⟨rfl, _, World.drewN_drewN _ _ _⟩ | exact ⟨rfl, _, Eq.trans (World.drewN_drewN _ _ _) (congrArg (World.drewN _) (Nat.add_assoc _ _ _))⟩)) | (go_at_call 34; (with_reducible refine (earshotref1_more.calls a0 (wrap64 (a1 + 2)) true _ A40.out).mono ?_); rintro e w' ⟨rfl, ⟨nd, rfl⟩⟩; (try first | exact ⟨rfl, _, World.drewN_drewN _ _ _⟩ | exact ⟨rfl, _, Eq.trans (World.drewN_drewN _ _ _) (congrArg (World.drewN _) (Nat.add_assoc _ _ _))⟩)) | (go_at_call 34; (with_reducible refine (earshotref1_more.calls a0 (wrap64 (a1 + 3)) t110 _ A42.out).mono ?_); rintro e w' ⟨rfl, ⟨nd, rfl⟩⟩; (try first | exact ⟨rfl, _, World.drewN_drewN _ _ _⟩ | exact ⟨rfl, _, Eq.trans (World.drewN_drewN _ _ _) (congrArg (World.drewN _) (Nat.add_assoc _ _ _))⟩))))
                                go_meet
                                case rel => exact ⟨_, (t110), (by first | rfl | (simp; done) | (simp [*]; done)), H', ⟨by have := HJ6.out; have := HJ15.out; have := HJ21.out; first | omega | exact Nat.le_refl _⟩, by repeat (first | exact Drawn0.refl _ | apply Drawn0.step)⟩
                              · replace c41 := Bool.eq_false_iff.mpr c41
                                subst c41
                                have H1 : (earshotref1_At.j3 kj21 a0 a1 (wrap64 (bt a0 a1)) false) = some (r1, r2, r3) := by rw [if_neg (show ¬ (false = true) by decide)] at H; exact H
                                clear H
                                have H := H1
                                clear H1
                                have H' := Aside0.mk H
                                clear H
                                go_wp2_with (first | (go_at_call 34; (with_reducible refine (earshotref1_more.calls a0 (wrap64 (a1 + 1)) true _ A38.out).mono ?_); rintro e w' ⟨rfl, ⟨nd, rfl⟩⟩; (try first | exact ⟨rfl, _, World.drewN_drewN _ _ _⟩ | exact ⟨rfl, _, Eq.trans (World.drewN_drewN _ _ _) (congrArg (World.drewN _) (Nat.add_assoc _ _ _))⟩)) | (go_at_call 34; (with_reducible refine (earshotref1_more.calls a0 (wrap64 (a1 + 2)) false _ A40.out).mono ?_); rintro e w' ⟨rfl, ⟨nd, rfl⟩⟩; (try first | exact ⟨rfl, _, World.drewN_drewN _ _ _⟩ | exact ⟨rfl, _, Eq.trans (World.drewN_drewN _ _ _) (congrArg (World.drewN _) (Nat.add_assoc _ _ _))⟩)))
                                repeat (go_quiet (first | (go_at_call 34; (with_reducible refine (earshotref1_more.calls a0 (wrap64 (a1 + 1)) true _ A38.out).mono ?_); rintro e w' ⟨rfl, ⟨nd, rfl⟩⟩; (try first | exact ⟨rfl, _, World.drewN_drewN _ _ _⟩ | exact ⟨rfl, _, Eq.trans (World.drewN_drewN _ _ _) (congrArg (World.drewN _) (Nat.add_assoc _ _ _))⟩)) | (go_at_call 34; (with_reducible refine (earshotref1_more.calls a0 (wrap64 (a1 + 2)) false _ A40.out).mono ?_); rintro e w' ⟨rfl, ⟨nd, rfl⟩⟩; (try first | exact ⟨rfl, _, World.drewN_drewN _ _ _⟩ | exact ⟨rfl, _, Eq.trans (World.drewN_drewN _ _ _) (congrArg (World.drewN _) (Nat.add_assoc _ _ _))⟩))); try go_wp2_with (first | (go_at_call 34; (with_reducible refine (earshotref1_more.calls a0 (wrap64 (a1 + 1)) true _ A38.out).mono ?_); rintro e w' ⟨rfl, ⟨nd, rfl⟩⟩; (try first | exact ⟨rfl, _, World.drewN_drewN _ _ _⟩ | exact ⟨rfl, _, Eq.trans (World.drewN_drewN _ _ _) (congrArg (World.drewN _) (Nat.add_assoc _ _ _))⟩)) | (go_at_call 34; (with_reducible refine (earshotref1_more.calls a0 (wrap64 (a1 + 2)) false _ A40.out).mono ?_); rintro e w' ⟨rfl, ⟨nd, rfl⟩⟩; (try first | exact ⟨rfl, _, World.drewN_drewN _ _ _⟩ | exact ⟨rfl, _, Eq.trans (World.drewN_drewN _ _ _) (congrArg (World.drewN _) (Nat.add_assoc _ _ _))⟩))))
                                go_meet
                                case rel => exact ⟨_, (false), (by first | rfl | (simp; done) | (simp [*]; done)), H', ⟨by have := HJ6.out; have := HJ15.out; have := HJ21.out; first | omega | exact Nat.le_refl _⟩, by repeat (first | exact Drawn0.refl _ | apply Drawn0.step)⟩
                            · replace c39 := Bool.eq_false_iff.mpr c39
                              subst c39
                              have H1 : (earshotref1_At.j3 kj21 a0 a1 (wrap64 (bt a0 a1)) false) = some (r1, r2, r3) := by rw [if_neg (show ¬ (false = true) by decide)] at H; exact H
                              clear H
                              have H := H1
                              clear H1
                              have H' := Aside0.mk H
                              clear H
                              go_wp2_with (first | (go_at_call 34; (with_reducible refine (earshotref1_more.calls a0 (wrap64 (a1 + 1)) false _ A38.out).mono ?_); rintro e w' ⟨rfl, ⟨nd, rfl⟩⟩; (try first | exact ⟨rfl, _, World.drewN_drewN _ _ _⟩ | exact ⟨rfl, _, Eq.trans (World.drewN_drewN _ _ _) (congrArg (World.drewN _) (Nat.add_assoc _ _ _))⟩)))
                              repeat (go_quiet (first | (go_at_call 34; (with_reducible refine (earshotref1_more.calls a0 (wrap64 (a1 + 1)) false _ A38.out).mono ?_); rintro e w' ⟨rfl, ⟨nd, rfl⟩⟩; (try first | exact ⟨rfl, _, World.drewN_drewN _ _ _⟩ | exact ⟨rfl, _, Eq.trans (World.drewN_drewN _ _ _) (congrArg (World.drewN _) (Nat.add_assoc _ _ _))⟩))); try go_wp2_with (first | (go_at_call 34; (with_reducible refine (earshotref1_more.calls a0 (wrap64 (a1 + 1)) false _ A38.out).mono ?_); rintro e w' ⟨rfl, ⟨nd, rfl⟩⟩; (try first | exact ⟨rfl, _, World.drewN_drewN _ _ _⟩ | exact ⟨rfl, _, Eq.trans (World.drewN_drewN _ _ _) (congrArg (World.drewN _) (Nat.add_assoc _ _ _))⟩))))
                              go_meet
                              case rel => exact ⟨_, (false), (by first | rfl | (simp; done) | (simp [*]; done)), H', ⟨by have := HJ6.out; have := HJ15.out; have := HJ21.out; first | omega | exact Nat.le_refl _⟩, by repeat (first | exact Drawn0.refl _ | apply Drawn0.step)⟩
                          · rw [if_neg c37] at H
                            have c37b0 : decide ((wrap64 (bt a0 a1)) ≤ 244) = false := decide_eq_false c37
                            clear c37
                            have H' := Aside0.mk H
                            clear H
                            go_wp2
                            repeat (go_quiet (fail); try go_wp2)
                            go_meet
                            case rel => exact ⟨_, (false), (by first | rfl | (simp; done) | (simp [*]; done)), H', ⟨by have := HJ6.out; have := HJ15.out; have := HJ21.out; first | omega | exact Nat.le_refl _⟩, by repeat (first | exact Drawn0.refl _ | apply Drawn0.step)⟩
                        · rw [if_neg c36] at H
                          have c36b0 : decide (240 ≤ (wrap64 (bt a0 a1))) = false := decide_eq_false c36
                          clear c36
                          (first | rw [c36b0] | (simp only [i64_w, i32_w]; rw [c36b0]) | skip)
                          have H' := Aside0.mk H
                          clear H
                          go_wp2
                          repeat (go_quiet (fail); try go_wp2)
                          go_meet
                          case rel => exact ⟨_, (false), (by first | rfl | (simp; done) | (simp [*]; done)), H', ⟨by have := HJ6.out; have := HJ15.out; have := HJ21.out; first | omega | exact Nat.le_refl _⟩, by repeat (first | exact Drawn0.refl _ | apply Drawn0.step)⟩
                      case rest =>
                        clear HC35
                        try clear c1
                        try clear p1
                        try clear q1
                        try clear hx1
                        try clear c2
                        try clear p2
                        try clear q2
                        try clear hx2
                        try clear c3
                        try clear c3b0
                        try clear p3
                        try clear q3
                        try clear hx3
                        try clear c4
                        try clear c4b0
                        try clear p5
                        try clear q5
                        try clear hx5
                        try clear c6
                        try clear c6b0
                        try clear p6
                        try clear c8
                        try clear c8b0
                        try clear c9
                        try clear c9b0
                        try clear c11
                        try clear c13
                        try clear c13b0
                        try clear c14
                        try clear c14b0
                        try clear c15
                        try clear p15
                        try clear q15
                        try clear hx15
                        try clear c17
                        try clear c17b0
                        try clear c18
                        try clear c18b0
                        try clear c20
                        try clear c21
                        try clear c23
                        try clear c25
                        try clear c25b0
                        try clear c26
                        try clear c26b0
                        try clear p27
                        try clear q27
                        try clear hx27
                        try clear c29
                        try clear c29b0
                        try clear c30
                        try clear c30b0
                        try clear p31
                        try clear q31
                        try clear hx31
                        try clear c32
                        try clear c32b0
                        try clear c33
                        try clear c33b0
                        try clear c34
                        try clear c34b0
                        try clear c36
                        try clear c36b0
                        try clear c37
                        try clear c37b0
                        try clear c39
                        try clear c41
                        try clear p1
                        try clear p15
                        try clear p2
                        try clear p27
                        try clear p3
                        try clear p31
                        try clear p5
                        try clear p6
                        try clear q1
                        try clear q15
                        try clear q2
                        try clear q27
                        try clear q3
                        try clear q31
                        try clear q5
                        obtain ⟨kq, x109_34, rfl, HA, HJ34, ⟨mc34, rfl⟩⟩ := hcut
                        cases kq with
                        | zero => exact absurd HA.out (by simp [earshotref1_At.j3])
                        | succ kj34 =>
                          have H := HA.out
                          clear HA
                          simp only [earshotref1_At.j3] at H
                          by_cases c43 : x109_34 = true
                          · subst c43
                            have H1 : (if 0 ≤ (wrap64 (a1 + 1)) then (if (wrap64 (a1 + 1)) < (a0.size : Int) then (if 0 ≤ (wrap64 (a1 + 2)) then (if (wrap64 (a1 + 2)) < (a0.size : Int) then (if 0 ≤ (wrap64 (a1 + 3)) then (if (wrap64 (a1 + 3)) < (a0.size : Int) then (if (wrap64 ((wrap64 ((wrap64 ((wrap64 ((wrap64 ((wrap64 ((wrap64 (bt a0 a1)) - 240)) * 262144)) + (wrap64 ((wrap64 ((wrap64 (bt a0 (wrap64 (a1 + 1)))) - 128)) * 4096)))) + (wrap64 ((wrap64 ((wrap64 (bt a0 (wrap64 (a1 + 2)))) - 128)) * 64)))) + (wrap64 (bt a0 (wrap64 (a1 + 3)))))) - 128)) ≥ 65536 then (if (wrap64 ((wrap64 ((wrap64 ((wrap64 ((wrap64 ((wrap64 ((wrap64 (bt a0 a1)) - 240)) * 262144)) + (wrap64 ((wrap64 ((wrap64 (bt a0 (wrap64 (a1 + 1)))) - 128)) * 4096)))) + (wrap64 ((wrap64 ((wrap64 (bt a0 (wrap64 (a1 + 2)))) - 128)) * 64)))) + (wrap64 (bt a0 (wrap64 (a1 + 3)))))) - 128)) ≤ 1114111 then (some (wrap64 ((wrap64 ((wrap64 ((wrap64 ((wrap64 ((wrap64 ((wrap64 (bt a0 a1)) - 240)) * 262144)) + (wrap64 ((wrap64 ((wrap64 (bt a0 (wrap64 (a1 + 1)))) - 128)) * 4096)))) + (wrap64 ((wrap64 ((wrap64 (bt a0 (wrap64 (a1 + 2)))) - 128)) * 64)))) + (wrap64 (bt a0 (wrap64 (a1 + 3)))))) - 128), 4, false)) else (some (65533, 1, true))) else (some (65533, 1, true))) else (none)) else (none)) else (none)) else (none)) else (none)) else (none)) = some (r1, r2, r3) := by rw [if_pos rfl] at H; exact H
                            clear H
                            have H := H1
                            clear H1
                            obtain ⟨ji44, hji44⟩ : ∃ j_ : Int, (wrap64 (a1 + 1)) = j_ := ⟨_, rfl⟩
                            replace H : (if 0 ≤ (ji44) then (if (ji44) < (a0.size : Int) then (if 0 ≤ (wrap64 (a1 + 2)) then (if (wrap64 (a1 + 2)) < (a0.size : Int) then (if 0 ≤ (wrap64 (a1 + 3)) then (if (wrap64 (a1 + 3)) < (a0.size : Int) then (if (wrap64 ((wrap64 ((wrap64 ((wrap64 ((wrap64 ((wrap64 ((wrap64 (bt a0 a1)) - 240)) * 262144)) + (wrap64 ((wrap64 ((wrap64 (bt a0 (ji44))) - 128)) * 4096)))) + (wrap64 ((wrap64 ((wrap64 (bt a0 (wrap64 (a1 + 2)))) - 128)) * 64)))) + (wrap64 (bt a0 (wrap64 (a1 + 3)))))) - 128)) ≥ 65536 then (if (wrap64 ((wrap64 ((wrap64 ((wrap64 ((wrap64 ((wrap64 ((wrap64 (bt a0 a1)) - 240)) * 262144)) + (wrap64 ((wrap64 ((wrap64 (bt a0 (ji44))) - 128)) * 4096)))) + (wrap64 ((wrap64 ((wrap64 (bt a0 (wrap64 (a1 + 2)))) - 128)) * 64)))) + (wrap64 (bt a0 (wrap64 (a1 + 3)))))) - 128)) ≤ 1114111 then (some (wrap64 ((wrap64 ((wrap64 ((wrap64 ((wrap64 ((wrap64 ((wrap64 (bt a0 a1)) - 240)) * 262144)) + (wrap64 ((wrap64 ((wrap64 (bt a0 (ji44))) - 128)) * 4096)))) + (wrap64 ((wrap64 ((wrap64 (bt a0 (wrap64 (a1 + 2)))) - 128)) * 64)))) + (wrap64 (bt a0 (wrap64 (a1 + 3)))))) - 128), 4, false)) else (some (65533, 1, true))) else (some (65533, 1, true))) else (none)) else (none)) else (none)) else (none)) else (none)) else (none)) = some (r1, r2, r3) := by first | (rw [hji44] at H; exact H) | (simp only [hji44] at H ⊢; exact H)
                            have hji44w : (IntKind.i64.wrap (a1 + 1)) = ji44 := (i64_w _).trans hji44
                            by_cases c45 : 0 ≤ (ji44)
                            · rw [if_pos c45] at H
                              have c45b0 : decide (0 ≤ (ji44)) = true := decide_eq_true c45
                              clear c45
                              by_cases c46 : (ji44) < (a0.size : Int)
                              · rw [if_pos c46] at H
                                have c46b0 : decide ((ji44) < (a0.size : Int)) = true := decide_eq_true c46
                                clear c46
                                obtain ⟨ji48, hji48⟩ : ∃ j_ : Int, (wrap64 (a1 + 2)) = j_ := ⟨_, rfl⟩
                                replace H : (if 0 ≤ (ji48) then (if (ji48) < (a0.size : Int) then (if 0 ≤ (wrap64 (a1 + 3)) then (if (wrap64 (a1 + 3)) < (a0.size : Int) then (if (wrap64 ((wrap64 ((wrap64 ((wrap64 ((wrap64 ((wrap64 ((wrap64 (bt a0 a1)) - 240)) * 262144)) + (wrap64 ((wrap64 ((wrap64 (bt a0 (ji44))) - 128)) * 4096)))) + (wrap64 ((wrap64 ((wrap64 (bt a0 (ji48))) - 128)) * 64)))) + (wrap64 (bt a0 (wrap64 (a1 + 3)))))) - 128)) ≥ 65536 then (if (wrap64 ((wrap64 ((wrap64 ((wrap64 ((wrap64 ((wrap64 ((wrap64 (bt a0 a1)) - 240)) * 262144)) + (wrap64 ((wrap64 ((wrap64 (bt a0 (ji44))) - 128)) * 4096)))) + (wrap64 ((wrap64 ((wrap64 (bt a0 (ji48))) - 128)) * 64)))) + (wrap64 (bt a0 (wrap64 (a1 + 3)))))) - 128)) ≤ 1114111 then (some (wrap64 ((wrap64 ((wrap64 ((wrap64 ((wrap64 ((wrap64 ((wrap64 (bt a0 a1)) - 240)) * 262144)) + (wrap64 ((wrap64 ((wrap64 (bt a0 (ji44))) - 128)) * 4096)))) + (wrap64 ((wrap64 ((wrap64 (bt a0 (ji48))) - 128)) * 64)))) + (wrap64 (bt a0 (wrap64 (a1 + 3)))))) - 128), 4, false)) else (some (65533, 1, true))) else (some (65533, 1, true))) else (none)) else (none)) else (none)) else (none)) = some (r1, r2, r3) := by first | (rw [hji48] at H; exact H) | (simp only [hji48] at H ⊢; exact H)
                                have hji48w : (IntKind.i64.wrap (a1 + 2)) = ji48 := (i64_w _).trans hji48
                                by_cases c49 : 0 ≤ (ji48)
                                · rw [if_pos c49] at H
                                  have c49b0 : decide (0 ≤ (ji48)) = true := decide_eq_true c49
                                  clear c49
                                  by_cases c50 : (ji48) < (a0.size : Int)
                                  · rw [if_pos c50] at H
                                    have c50b0 : decide ((ji48) < (a0.size : Int)) = true := decide_eq_true c50
                                    clear c50
                                    obtain ⟨ji52, hji52⟩ : ∃ j_ : Int, (wrap64 (a1 + 3)) = j_ := ⟨_, rfl⟩
                                    replace H : (if 0 ≤ (ji52) then (if (ji52) < (a0.size : Int) then (if (wrap64 ((wrap64 ((wrap64 ((wrap64 ((wrap64 ((wrap64 ((wrap64 (bt a0 a1)) - 240)) * 262144)) + (wrap64 ((wrap64 ((wrap64 (bt a0 (ji44))) - 128)) * 4096)))) + (wrap64 ((wrap64 ((wrap64 (bt a0 (ji48))) - 128)) * 64)))) + (wrap64 (bt a0 (ji52))))) - 128)) ≥ 65536 then (if (wrap64 ((wrap64 ((wrap64 ((wrap64 ((wrap64 ((wrap64 ((wrap64 (bt a0 a1)) - 240)) * 262144)) + (wrap64 ((wrap64 ((wrap64 (bt a0 (ji44))) - 128)) * 4096)))) + (wrap64 ((wrap64 ((wrap64 (bt a0 (ji48))) - 128)) * 64)))) + (wrap64 (bt a0 (ji52))))) - 128)) ≤ 1114111 then (some (wrap64 ((wrap64 ((wrap64 ((wrap64 ((wrap64 ((wrap64 ((wrap64 (bt a0 a1)) - 240)) * 262144)) + (wrap64 ((wrap64 ((wrap64 (bt a0 (ji44))) - 128)) * 4096)))) + (wrap64 ((wrap64 ((wrap64 (bt a0 (ji48))) - 128)) * 64)))) + (wrap64 (bt a0 (ji52))))) - 128), 4, false)) else (some (65533, 1, true))) else (some (65533, 1, true))) else (none)) else (none)) = some (r1, r2, r3) := by first | (rw [hji52] at H; exact H) | (simp only [hji52] at H ⊢; exact H)
                                    have hji52w : (IntKind.i64.wrap (a1 + 3)) = ji52 := (i64_w _).trans hji52
                                    by_cases c53 : 0 ≤ (ji52)
                                    · rw [if_pos c53] at H
                                      have c53b0 : decide (0 ≤ (ji52)) = true := decide_eq_true c53
                                      clear c53
                                      by_cases c54 : (ji52) < (a0.size : Int)
                                      · rw [if_pos c54] at H
                                        have c54b0 : decide ((ji52) < (a0.size : Int)) = true := decide_eq_true c54
                                        clear c54
                                        by_cases c56 : (wrap64 ((wrap64 ((wrap64 ((wrap64 ((wrap64 ((wrap64 ((wrap64 (bt a0 a1)) - 240)) * 262144)) + (wrap64 ((wrap64 ((wrap64 (bt a0 (ji44))) - 128)) * 4096)))) + (wrap64 ((wrap64 ((wrap64 (bt a0 (ji48))) - 128)) * 64)))) + (wrap64 (bt a0 (ji52))))) - 128)) ≥ 65536
                                        · rw [if_pos c56] at H
                                          have c56b0 : decide (65536 ≤ (wrap64 ((wrap64 ((wrap64 ((wrap64 ((wrap64 ((wrap64 ((wrap64 (bt a0 a1)) - 240)) * 262144)) + (wrap64 ((wrap64 ((wrap64 (bt a0 (ji44))) - 128)) * 4096)))) + (wrap64 ((wrap64 ((wrap64 (bt a0 (ji48))) - 128)) * 64)))) + (wrap64 (bt a0 (ji52))))) - 128))) = true := decide_eq_true c56
                                          clear c56
                                          by_cases c57 : (wrap64 ((wrap64 ((wrap64 ((wrap64 ((wrap64 ((wrap64 ((wrap64 (bt a0 a1)) - 240)) * 262144)) + (wrap64 ((wrap64 ((wrap64 (bt a0 (ji44))) - 128)) * 4096)))) + (wrap64 ((wrap64 ((wrap64 (bt a0 (ji48))) - 128)) * 64)))) + (wrap64 (bt a0 (ji52))))) - 128)) ≤ 1114111
                                          · rw [if_pos c57] at H
                                            have c57b0 : decide ((wrap64 ((wrap64 ((wrap64 ((wrap64 ((wrap64 ((wrap64 ((wrap64 (bt a0 a1)) - 240)) * 262144)) + (wrap64 ((wrap64 ((wrap64 (bt a0 (ji44))) - 128)) * 4096)))) + (wrap64 ((wrap64 ((wrap64 (bt a0 (ji48))) - 128)) * 64)))) + (wrap64 (bt a0 (ji52))))) - 128)) ≤ 1114111) = true := decide_eq_true c57
                                            clear c57
                                            simp only [Option.some.injEq, Prod.mk.injEq] at H
                                            obtain ⟨rfl, rfl, rfl⟩ := H
                                            have p47 : 0 ≤ ((ji44) : Int) := of_decide_eq_true (by first | (with_reducible assumption) | assumption)
                                            have q47 : (ji44) < (a0.size : Int) := of_decide_eq_true (by first | (with_reducible assumption) | assumption)
                                            have hx47 := bt_at a0 (ji44)
                                            replace p47 := eq_true p47
                                            replace q47 := eq_true q47
                                            have p51 : 0 ≤ ((ji48) : Int) := of_decide_eq_true (by first | (with_reducible assumption) | assumption)
                                            have q51 : (ji48) < (a0.size : Int) := of_decide_eq_true (by first | (with_reducible assumption) | assumption)
                                            have hx51 := bt_at a0 (ji48)
                                            replace p51 := eq_true p51
                                            replace q51 := eq_true q51
                                            have p55 : 0 ≤ ((ji52) : Int) := of_decide_eq_true (by first | (with_reducible assumption) | assumption)
                                            have q55 : (ji52) < (a0.size : Int) := of_decide_eq_true (by first | (with_reducible assumption) | assumption)
                                            have hx55 := bt_at a0 (ji52)
                                            replace p55 := eq_true p55
                                            replace q55 := eq_true q55
                                            go_wp2
                                            repeat (go_quiet (fail); try go_wp2)
                                            go_ret3
                                            exact ⟨by first | rfl | (simp; done) | (simp only [← hji44, ← hji48, ← hji52] <;> (first | rfl | simp)) | (simp [*]; done), by repeat (first | exact Drawn0.refl _ | apply Drawn0.step)⟩
                                          · rw [if_neg c57] at H
                                            have c57b0 : decide ((wrap64 ((wrap64 ((wrap64 ((wrap64 ((wrap64 ((wrap64 ((wrap64 (bt a0 a1)) - 240)) * 262144)) + (wrap64 ((wrap64 ((wrap64 (bt a0 (ji44))) - 128)) * 4096)))) + (wrap64 ((wrap64 ((wrap64 (bt a0 (ji48))) - 128)) * 64)))) + (wrap64 (bt a0 (ji52))))) - 128)) ≤ 1114111) = false := decide_eq_false c57
                                            clear c57
                                            simp only [Option.some.injEq, Prod.mk.injEq] at H
                                            obtain ⟨rfl, rfl, rfl⟩ := H
                                            have p47 : 0 ≤ ((ji44) : Int) := of_decide_eq_true (by first | (with_reducible assumption) | assumption)
                                            have q47 : (ji44) < (a0.size : Int) := of_decide_eq_true (by first | (with_reducible assumption) | assumption)
                                            have hx47 := bt_at a0 (ji44)
                                            replace p47 := eq_true p47
                                            replace q47 := eq_true q47
                                            have p51 : 0 ≤ ((ji48) : Int) := of_decide_eq_true (by first | (with_reducible assumption) | assumption)
                                            have q51 : (ji48) < (a0.size : Int) := of_decide_eq_true (by first | (with_reducible assumption) | assumption)
                                            have hx51 := bt_at a0 (ji48)
                                            replace p51 := eq_true p51
                                            replace q51 := eq_true q51
                                            have p55 : 0 ≤ ((ji52) : Int) := of_decide_eq_true (by first | (with_reducible assumption) | assumption)
                                            have q55 : (ji52) < (a0.size : Int) := of_decide_eq_true (by first | (with_reducible assumption) | assumption)
                                            have hx55 := bt_at a0 (ji52)
                                            replace p55 := eq_true p55
                                            replace q55 := eq_true q55
                                            go_wp2
                                            repeat (go_quiet (fail); try go_wp2)
                                            go_ret3
                                            exact ⟨by first | rfl | (simp; done) | (simp only [← hji44, ← hji48, ← hji52] <;> (first | rfl | simp)) | (simp [*]; done), by repeat (first | exact Drawn0.refl _ | apply Drawn0.step)⟩
                                        · rw [if_neg c56] at H
                                          have c56b0 : decide (65536 ≤ (wrap64 ((wrap64 ((wrap64 ((wrap64 ((wrap64 ((wrap64 ((wrap64 (bt a0 a1)) - 240)) * 262144)) + (wrap64 ((wrap64 ((wrap64 (bt a0 (ji44))) - 128)) * 4096)))) + (wrap64 ((wrap64 ((wrap64 (bt a0 (ji48))) - 128)) * 64)))) + (wrap64 (bt a0 (ji52))))) - 128))) = false := decide_eq_false c56
                                          clear c56
                                          simp only [Option.some.injEq, Prod.mk.injEq] at H
                                          obtain ⟨rfl, rfl, rfl⟩ := H
                                          have p47 : 0 ≤ ((ji44) : Int) := of_decide_eq_true (by first | (with_reducible assumption) | assumption)
                                          have q47 : (ji44) < (a0.size : Int) := of_decide_eq_true (by first | (with_reducible assumption) | assumption)
                                          have hx47 := bt_at a0 (ji44)
                                          replace p47 := eq_true p47
                                          replace q47 := eq_true q47
                                          have p51 : 0 ≤ ((ji48) : Int) := of_decide_eq_true (by first | (with_reducible assumption) | assumption)
                                          have q51 : (ji48) < (a0.size : Int) := of_decide_eq_true (by first | (with_reducible assumption) | assumption)
                                          have hx51 := bt_at a0 (ji48)
                                          replace p51 := eq_true p51
                                          replace q51 := eq_true q51
                                          have p55 : 0 ≤ ((ji52) : Int) := of_decide_eq_true (by first | (with_reducible assumption) | assumption)
                                          have q55 : (ji52) < (a0.size : Int) := of_decide_eq_true (by first | (with_reducible assumption) | assumption)
                                          have hx55 := bt_at a0 (ji52)
                                          replace p55 := eq_true p55
                                          replace q55 := eq_true q55
                                          go_wp2
                                          repeat (go_quiet (fail); try go_wp2)
                                          go_ret3
                                          exact ⟨by first | rfl | (simp; done) | (simp only [← hji44, ← hji48, ← hji52] <;> (first | rfl | simp)) | (simp [*]; done), by repeat (first | exact Drawn0.refl _ | apply Drawn0.step)⟩
                                      · rw [if_neg c54] at H
                                        exact absurd H (by simp)
                                    · rw [if_neg c53] at H
                                      exact absurd H (by simp)
                                  · rw [if_neg c50] at H
                                    exact absurd H (by simp)
                                · rw [if_neg c49] at H
                                  exact absurd H (by simp)
                              · rw [if_neg c46] at H
                                exact absurd H (by simp)
                            · rw [if_neg c45] at H
                              exact absurd H (by simp)
                          · replace c43 := Bool.eq_false_iff.mpr c43
                            subst c43
                            have H1 : (some (65533, 1, true)) = some (r1, r2, r3) := by rw [if_neg (show ¬ (false = true) by decide)] at H; exact H
                            clear H
                            have H := H1
                            clear H1
                            simp only [Option.some.injEq, Prod.mk.injEq] at H
                            obtain ⟨rfl, rfl, rfl⟩ := H
                            go_wp2
                            repeat (go_quiet (fail); try go_wp2)
                            go_ret3
                            exact ⟨by first | rfl | (simp; done) | (simp [*]; done), by repeat (first | exact Drawn0.refl _ | apply Drawn0.step)⟩
    · rw [if_neg c4] at H
      exact absurd H (by simp)
  · rw [if_neg c3] at H
    exact absurd H (by simp)

end Go.Proofs.YtgohhallpkknfaaDoor.PNoticeReads
