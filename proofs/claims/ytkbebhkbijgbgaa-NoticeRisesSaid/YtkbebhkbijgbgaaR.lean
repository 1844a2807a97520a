/- Lists of notices: SameNotices, Rising, LentNotices, StaysNotices. -/
import Derived.Test.YtkbebhkbijgbgaaA
import Derived.Deep.Light
namespace Go.Proofs.Ytkbebhkbijgbgaa
open Go.RowKit Go.Ear
set_option maxHeartbeats 1000000

/-- The slice's first n elements, of three cells each, read as f. -/
def NL (w : World) (A : Option Addr) (n : Nat) (f : Nat → Int × Int × Int) : Prop :=
  0 < n → ∃ b off, A = some ⟨b, off, none⟩ ∧ b < w.heap.size ∧ ∀ i, i < n →
    w.cell? ⟨b, off + i * 3, none⟩ = some (i64 (f i).1) ∧ w.cell? ⟨b, off + i * 3 + 1, none⟩ = some (i64 (f i).2.1) ∧ w.cell? ⟨b, off + i * 3 + 2, none⟩ = some (i64 (f i).2.2)

theorem same_any (A B : Option Addr) (n c d : Nat) (f : Nat → Int × Int × Int) (w : World) (hA : NL w A n f) (hB : NL w B n f) (hn : n ≤ 1000000000000000) :
    Calls Try.prog 28 #[.slice A n c, .slice B n d] w (Gr (.bool true) w) := by
  rcases Nat.eq_zero_or_pos n with rfl | hp
  · go_enter Try.func28, Try.ntmps28
    go_wp2
    refine wp_loop_rounds 1 ?_
    rw [rounds_succ]
    go_wp2
    go_ret
    exact gr_same rfl
  · obtain ⟨b, off, rfl, hb, hcA⟩ := hA hp
    obtain ⟨b', off', rfl, hb', hcB⟩ := hB hp
    have i1 : Old b w := ⟨hb⟩
    have i2 : Old b' w := ⟨hb'⟩
    go_enter Try.func28, Try.ntmps28
    go_wp2
    go_loopw [5] (fun i wr => ∃ (k : Nat) (g : Grows w), k ≤ n ∧ i = .int .i64 k ∧ wr = g.w) (fun i _ => n - (intOf i).toNat)
    case atStart => exact ⟨0, ⟨w, Below.refl _ _⟩, Nat.zero_le _, rfl, rfl⟩
    case round =>
      obtain ⟨k, g, hk, rfl, rfl⟩ := hrel
      by_cases hlt : k < n
      · obtain ⟨a1, a2, a3⟩ := hcA k hlt
        obtain ⟨b1, b2, b3⟩ := hcB k hlt
        go_wp2
        refine wp_region_grows (by kernel_rfl) (by kernel_rfl) ?_
        repeat (go_big_quiet_step (fail))
        refine wpQuiet_nil ?_
        rintro _ ⟨g2, rfl⟩
        go_wp2
        go_roundw
        case rel => exact ⟨k + 1, g.join g2, by omega, by go_num, rfl⟩
        case measure => simp [intOf]; omega
      · go_wp2
        go_ret
        exact gr_mk rfl (grow_g (Below.refl _ _) _)

/-- Of the first k elements each is valid, and each Of above the one ahead. -/
def rise (n : Int) (f : Nat → Int × Int × Int) : Nat → Bool
  | 0 => true
  | k + 1 => rise n f k && (validF n (f k).1 (f k).2.1 (f k).2.2 && (k == 0 || decide ((f (k - 1)).1 < (f k).1)))

def lastOf (f : Nat → Int × Int × Int) (k : Nat) : Int := if k = 0 then -1 else (f (k - 1)).1
theorem rise_stop {n : Int} {f : Nat → Int × Int × Int} {k m : Nat} (h : rise n f k = false) (hk : k ≤ m) : rise n f m = false := by
  induction hk with
  | refl => exact h
  | step _ ih => simp [rise, ih]
theorem rise_valid {n : Int} {f : Nat → Int × Int × Int} {k j : Nat} (h : rise n f k = true) (hj : j < k) : validF n (f j).1 (f j).2.1 (f j).2.2 = true := by
  induction k with
  | zero => omega
  | succ k ih =>
    simp only [rise, Bool.and_eq_true] at h
    by_cases e : j = k
    · subst e; exact h.2.1
    · exact ih h.1 (by omega)

theorem rising_any (n : Int) (A : Option Addr) (m c : Nat) (f : Nat → Int × Int × Int) (w : World) (hA : NL w A m f) (hn : m ≤ 1000000000000000) :
    Calls Try.prog 20 #[i64 n, .slice A m c] w (Gr (.bool (rise n f m)) w) := by
  rcases Nat.eq_zero_or_pos m with rfl | hp
  · go_enter Try.func20, Try.ntmps20
    go_wp2
    refine wp_loop_rounds 1 ?_
    rw [rounds_succ]
    go_wp2
    go_ret
    exact gr_same rfl
  · obtain ⟨b, off, rfl, hb, hcA⟩ := hA hp
    have i1 : Old b w := ⟨hb⟩
    go_enter Try.func20, Try.ntmps20
    go_wp2
    go_loopw [5, 10] (fun l i wr => ∃ (k : Nat) (g : Grows w), k ≤ m ∧ i = .int .i64 k ∧ l = .int .i64 (lastOf f k) ∧ rise n f k = true ∧ wr = g.w) (fun _ i _ => m - (intOf i).toNat)
    case atStart => exact ⟨0, ⟨w, Below.refl _ _⟩, Nat.zero_le _, rfl, rfl, rfl, rfl⟩
    case round =>
      obtain ⟨k, g, hk, rfl, rfl, hr, rfl⟩ := hrel
      have HR := Lib.hid hr
      clear hr
      by_cases hlt : k < m
      · obtain ⟨a1, a2, a3⟩ := hcA k hlt
        cases hv : validF n (f k).1 (f k).2.1 (f k).2.2
        · go_wp2_with (go_at_call 15; refine (valid_any _ _ _ _ _).mono ?_; rintro e w' ⟨rfl, g2, rfl⟩)
          go_ret
          have e : rise n f m = false := rise_stop (k := k + 1) (by simp [rise, hv]) (by omega)
          rw [e]
          exact gr_mk rfl (by repeat (first | exact Below.refl _ _ | refine grow_g ?_ _ | refine grow_alloc ?_ _))
        · by_cases hl : (f k).1 ≤ lastOf f k
          · go_wp2_with (go_at_call 15; refine (valid_any _ _ _ _ _).mono ?_; rintro e w' ⟨rfl, g2, rfl⟩)
            go_ret
            have e : rise n f m = false := by
              refine rise_stop (k := k + 1) ?_ (by omega)
              unfold lastOf at hl
              by_cases h0 : k = 0
              · subst h0
                simp [validF] at hv
                simp at hl
                omega
              · simp [h0] at hl
                simp [rise, h0]
                omega
            rw [e]
            exact gr_mk rfl (by repeat (first | exact Below.refl _ _ | refine grow_g ?_ _ | refine grow_alloc ?_ _))
          · go_wp2_with (go_at_call 15; refine (valid_any _ _ _ _ _).mono ?_; rintro e w' ⟨rfl, g2, rfl⟩)
            go_roundw
            case rel =>
              refine ⟨k + 1, ⟨_, ?_⟩, by omega, by go_num, by simp [lastOf], ?_, rfl⟩
              · repeat (first | exact Below.refl _ _ | refine grow_g ?_ _ | refine grow_alloc ?_ _)
              · unfold lastOf at hl
                simp only [rise, HR.out, hv, Bool.true_and]
                by_cases h0 : k = 0
                · simp [h0]
                · simp [h0] at hl
                  simp [h0]
                  omega
            case measure => simp [intOf]; omega
      · go_wp2
        go_ret
        have : k = m := by omega
        subst this
        rw [HR.out]
        exact gr_mk rfl (grow_g (Below.refl _ _) _)
end Go.Proofs.Ytkbebhkbijgbgaa
