/- StaysNotices, the reference's Rising, and the walk of the law NoticeRises. -/
import Derived.Test.YtkbebhkbijgbgaaS
namespace Go.Proofs.Ytkbebhkbijgbgaa
open Go.RowKit Go.Ear
set_option maxHeartbeats 2000000

theorem NL.grow {w : World} {A : Option Addr} {n : Nat} {f : Nat → Int × Int × Int} (h : NL w A n f) (g : Grows w) : NL g.w A n f := by
  intro hn
  obtain ⟨b, off, e, hb, hc⟩ := h hn
  have : Old b w := ⟨hb⟩
  exact ⟨b, off, e, Nat.lt_of_lt_of_le hb g.h.size, fun i hi => by simpa only [Grows.cell_eq] using hc i hi⟩
theorem NL.mono {w : World} {A : Option Addr} {n m : Nat} {f f' : Nat → Int × Int × Int} (h : NL w A n f) (hm : m ≤ n) (he : ∀ i, i < m → f i = f' i) : NL w A m f' := by
  intro hp
  obtain ⟨b, off, e, hb, hc⟩ := h (by omega)
  exact ⟨b, off, e, hb, fun i hi => by rw [← he i hi]; exact hc i (by omega)⟩

theorem NL.join {w : World} {A : Option Addr} {n : Nat} {f : Nat → Int × Int × Int} {g : Grows w} (h : NL g.w A n f) (g2 : Grows g.w) : NL (g.join g2).w A n f := h.grow g2

theorem stays_any (g n cap : Nat) (B : Option Addr) (d : Nat) (f : Nat → Int × Int × Int) (w : World) (hA : NL w (some ⟨g, 0, none⟩) (n + 3) (lentF f n)) (hB : NL w B n f) (hc : n + 3 ≤ cap) (hn : n ≤ 1000000000000000) :
    Calls Try.prog 22 #[.slice (some ⟨g, 0, none⟩) n cap, .slice B n d] w (Gr (.bool true) w) := by
  have hS := same_any (some ⟨g, 0, none⟩) B n cap d f
  have hA' : NL w (some ⟨g, 0, none⟩) n f := hA.mono (by omega) (fun i hi => by simp [lentF, hi])
  obtain ⟨b, off, e, hb, hcc⟩ := hA (by omega)
  cases e
  have i1 : Old g w := ⟨hb⟩
  go_enter Try.func22, Try.ntmps22
  go_wp2_with (go_at_call 28; refine (hS _ hA' hB hn).mono ?_; rintro e w' ⟨rfl, g0, rfl⟩)
  clear hA hB hA' hS
  have h3 : ∀ i : Nat, i < 3 → w.cell? ⟨g, (n + i) * 3, none⟩ = some (i64 (-7)) ∧ w.cell? ⟨g, (n + i) * 3 + 1, none⟩ = some (i64 i) ∧ w.cell? ⟨g, (n + i) * 3 + 2, none⟩ = some (i64 0) := by
    intro i hi
    have := hcc (n + i) (by omega)
    have hge : ¬ n + i < n := by omega
    have hs : n + i - n = i := by omega
    simpa [lentF, hge, hs] using this
  have H3 := Lib.hid h3
  clear h3 hcc
  go_loopw [6] (fun i wr => ∃ (k : Nat) (g1 : Grows w), k ≤ 3 ∧ i = .int .i64 k ∧ wr = g1.w) (fun i _ => 3 - (intOf i).toNat)
  case atStart => exact ⟨0, g0, by omega, rfl, rfl⟩
  case round =>
    obtain ⟨k, g1, hk, rfl, rfl⟩ := hrel
    by_cases hlt : k < 3
    · obtain ⟨a1, a2, a3⟩ := H3.out k hlt
      go_wp2
      go_roundw
      case rel => exact ⟨k + 1, g1, by omega, by go_num, rfl⟩
      case measure => simp [intOf]; omega
    · go_wp2
      go_ret
      exact gr_mk rfl (grow_g (Below.refl _ _) _)

theorem rrising_any (n : Int) (A : Option Addr) (m c : Nat) (f : Nat → Int × Int × Int) (w : World) (hA : NL w A m f) (hn : m ≤ 1000000000000000) :
    Calls Try.prog 21 #[i64 n, .slice A m c] w (Gr (.bool (rise n f m)) w) := by
  rcases Nat.eq_zero_or_pos m with rfl | hp
  · go_enter Try.func21, Try.ntmps21
    go_wp2
    refine wp_loop_rounds 1 ?_
    rw [rounds_succ]
    go_wp2
    go_ret
    exact gr_same rfl
  · obtain ⟨b, off, rfl, hb, hcA⟩ := hA hp
    have i1 : Old b w := ⟨hb⟩
    go_enter Try.func21, Try.ntmps21
    go_wp2
    go_loopw [5] (fun i wr => ∃ (k : Nat) (g : Grows w), k ≤ m ∧ i = .int .i64 k ∧ rise n f k = true ∧ wr = g.w) (fun i _ => m - (intOf i).toNat)
    case atStart => exact ⟨0, ⟨w, Below.refl _ _⟩, Nat.zero_le _, rfl, rfl, rfl⟩
    case round =>
      obtain ⟨k, g, hk, rfl, hr, rfl⟩ := hrel
      have HR := Lib.hid hr
      clear hr
      by_cases hlt : k < m
      · obtain ⟨a1, a2, a3⟩ := hcA k hlt
        cases hv : validF n (f k).1 (f k).2.1 (f k).2.2
        · go_wp2
          refine wp_region_grows (by kernel_rfl) (by kernel_rfl) ?_
          repeat (go_big_quiet_step ((go_at_call 16; exact grows_of (rvalid_any _ _ _ _ _))))
          refine wpQuiet_nil ?_
          rintro _ ⟨g2, rfl⟩
          go_wp2
          go_ret
          have e : rise n f m = false := rise_stop (k := k + 1) (by simp [rise, hv]) (by omega)
          rw [e]
          exact gr_mk rfl (by repeat (first | exact Below.refl _ _ | refine grow_g ?_ _ | refine grow_alloc ?_ _))
        · rcases Nat.eq_zero_or_pos k with rfl | hk0
          · simp only [Nat.zero_mul, Nat.add_zero] at a1 a2 a3
            go_wp2
            refine wp_region_grows (by kernel_rfl) (by kernel_rfl) ?_
            repeat (go_big_quiet_step ((go_at_call 16; exact grows_of (rvalid_any _ _ _ _ _))))
            refine wpQuiet_nil ?_
            rintro _ ⟨g2, rfl⟩
            go_wp2
            go_roundw
            case rel => exact ⟨1, g.join g2, by omega, rfl, by simp [rise, hv], rfl⟩
            case measure => simp [intOf]; omega
          · obtain ⟨j, rfl⟩ : ∃ j, k = j + 1 := ⟨k - 1, by omega⟩
            obtain ⟨b1, b2, b3⟩ := hcA j (by omega)
            by_cases hl : (f (j + 1)).1 ≤ (f j).1
            · go_wp2
              refine wp_region_grows (by kernel_rfl) (by kernel_rfl) ?_
              repeat (go_big_quiet_step ((go_at_call 16; exact grows_of (rvalid_any _ _ _ _ _))))
              refine wpQuiet_nil ?_
              rintro _ ⟨g2, rfl⟩
              go_wp2
              go_ret
              have e : rise n f m = false := rise_stop (k := j + 1 + 1) (by simp [rise]; intros; omega) (by omega)
              rw [e]
              exact gr_mk rfl (by repeat (first | exact Below.refl _ _ | refine grow_g ?_ _ | refine grow_alloc ?_ _))
            · go_wp2
              refine wp_region_grows (by kernel_rfl) (by kernel_rfl) ?_
              repeat (go_big_quiet_step ((go_at_call 16; exact grows_of (rvalid_any _ _ _ _ _))))
              refine wpQuiet_nil ?_
              rintro _ ⟨g2, rfl⟩
              go_wp2
              go_roundw
              case rel =>
                refine ⟨j + 1 + 1, g.join g2, by omega, by go_num, ?_, rfl⟩
                have hr := HR.out
                rw [rise, hr, hv]
                simp
                omega
              case measure => simp [intOf]; omega
      · go_wp2
        go_ret
        have : k = m := by omega
        subst this
        rw [HR.out]
        exact gr_mk rfl (grow_g (Below.refl _ _) _)

theorem law_rises (n : Int) (A : Option Addr) (m c : Nat) (f : Nat → Int × Int × Int) (w : World) (hA : NL w A m f) (h0 : A = none → m = 0 ∧ c = 0) (hn : m * 24 ≤ 140737488351232) :
    Calls Try.prog 5 #[i64 n, .slice A m c] w (Gr (.bool true) w) := by
  have hL := lent_any A m c f w hn h0 hA
  have hm : m ≤ 1000000000000000 := by omega
  go_enter Try.func5, Try.ntmps5
  go_wp2_with fail
  refine hL.mono ?_
  rintro e w' ⟨b, cap, rfl, hcap, hN, g, rfl⟩
  have hN' : NL g.w (some ⟨b, 0, none⟩) m f := hN.mono (by omega) (fun i hi => by simp [lentF, hi])
  have hA' : NL g.w A m f := hA.grow g
  clear hL hA
  go_wp2_with (first
    | (go_at_call 10; refine (alive_any _).mono ?_; rintro e w' ⟨rfl, g2, rfl⟩)
    | (go_at_call 20; refine (rising_any _ _ _ _ f _ (by repeat (first | exact hN' | refine NL.join ?_ _ | refine NL.grow ?_ _)) hm).mono ?_; rintro e w' ⟨rfl, g2, rfl⟩)
    | (go_at_call 21; refine (rrising_any _ _ _ _ f _ (by repeat (first | exact hA' | refine NL.join ?_ _ | refine NL.grow ?_ _)) hm).mono ?_; rintro e w' ⟨rfl, g2, rfl⟩)
    | (go_at_call 22; refine (stays_any _ _ _ _ _ f _ (by repeat (first | exact hN | refine NL.join ?_ _ | refine NL.grow ?_ _)) (by repeat (first | exact hA' | refine NL.join ?_ _ | refine NL.grow ?_ _)) hcap hm).mono ?_; rintro e w' ⟨rfl, g2, rfl⟩))
  go_ret
  exact gr_mk (by simp) (by repeat (first | exact Below.refl _ _ | refine grow_g ?_ _))
end Go.Proofs.Ytkbebhkbijgbgaa
