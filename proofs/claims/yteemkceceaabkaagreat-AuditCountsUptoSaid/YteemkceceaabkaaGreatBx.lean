/- The book of lists: marks; whether lists are alike, are marked. -/
import Derived.Test.YteemkceceaabkaaGreatBw
namespace Go.Proofs.YteemkceceaabkaaGreat
open Go.RowKit Go.Ear
set_option maxHeartbeats 1000000
set_option maxRecDepth 40000

/-- Marks, one behind the other. -/
def marks (f : Nat → Nat → List Value) (i fr n : Nat) : List Value := (List.range n).flatMap fun q => f i (fr + q)
section
variable {f : Nat → Nat → List Value} {sz i fr n : Nat}
theorem marks_succ : marks f i fr (n + 1) = marks f i fr n ++ f i (fr + n) := by simp [marks, List.range_succ]
theorem marks_zero : marks f i fr 0 = [] := rfl
theorem marks_add (m : Nat) : marks f i fr (n + m) = marks f i fr n ++ marks f i (fr + n) m := by
  induction m with
  | zero => simp [marks_zero]
  | succ m ih => rw [← Nat.add_assoc, marks_succ, ih, marks_succ, List.append_assoc, Nat.add_assoc]
theorem marks_len (h : ∀ i k, (f i k).length = sz) : (marks f i fr n).length = n * sz := by
  induction n with
  | zero => simp [marks_zero]
  | succ n ih => rw [marks_succ, List.length_append, ih, h, Nat.succ_mul]
theorem marks_get (h : ∀ i k, (f i k).length = sz) {q r : Nat} (hq : q < n) (hr : r < sz) : (marks f i fr n)[q * sz + r]? = (f i (fr + q))[r]? := by
  obtain ⟨m, rfl⟩ : ∃ m, n = q + 1 + m := ⟨n - (q + 1), by omega⟩
  have hl : (marks f i fr q).length = q * sz := marks_len h
  have h1 : (marks f i fr (q + 1)).length = (q + 1) * sz := marks_len h
  rw [marks_add, List.getElem?_append_left (by rw [h1, Nat.succ_mul]; omega), marks_succ, List.getElem?_append_right (by omega), hl, Nat.add_sub_cancel_left]
end
theorem flatMap_get {α : Type} {sz : Nat} (g : α → List Value) (h : ∀ x, (g x).length = sz) : ∀ (l : List α) (q r : Nat) (x : α), l[q]? = some x → r < sz → (l.flatMap g)[q * sz + r]? = (g x)[r]?
  | y :: l, 0, r, x, hx, hr => by
    simp at hx
    subst hx
    rw [List.flatMap_cons, Nat.zero_mul, Nat.zero_add, List.getElem?_append_left (by rw [h]; exact hr)]
  | y :: l, q + 1, r, x, hx, hr => by
    rw [List.flatMap_cons, List.getElem?_append_right (by rw [h, Nat.succ_mul]; omega), h, show (q + 1) * sz + r - sz = q * sz + r by rw [Nat.succ_mul]; omega]
    exact flatMap_get g h l q r x (by simpa using hx) hr
theorem flatMap_len {α : Type} {sz : Nat} (g : α → List Value) (h : ∀ x, (g x).length = sz) (l : List α) : (l.flatMap g).length = l.length * sz := by
  induction l with
  | nil => simp
  | cons x l ih => rw [List.flatMap_cons, List.length_append, ih, h, List.length_cons, Nat.succ_mul]; omega
/-- Lists, as a list of lists reads. -/
def Lists (w : World) (v : Value) (sz : Nat) (its : List (Value × Nat × List Value)) : Prop := SL w v its.length 1 (its.map (·.1)) ∧ ∀ it ∈ its, SL w it.1 it.2.1 sz it.2.2

def mkBytes (i k : Nat) : List Value := [.int .u8 (((i : Int) * 31 + (k : Int) * 7 + (i : Int) / 7) % 251)]
theorem mkBytes_len (i k : Nat) : (mkBytes i k).length = 1 := rfl

theorem markBytes_any (i fr n : Nat) (w : World) (hi : i ≤ 1000) (hn : fr + n ≤ 2000000000) :
    Calls Tryz.prog 115 #[i64 i, i64 fr, i64 n] w fun e w' => ∃ A c, e = .returned (.slice A n c) ∧ w'.ownsRow w.heap.size 5 1 (.slice A n c) n (marks mkBytes i fr n) ∧ ∃ g : Grows w, w' = g.w := by
  obtain ⟨i0, hi0, hz0, hz1, hz2⟩ := info_parts infoBytes
  go_enter Tryz.func115, Tryz.ntmps115
  go_wp2
  go_loopw [7, 8] (fun l' k' wr => ∃ q : Nat, q ≤ n ∧ k' = .int .i64 ((fr + q : Nat) : Int) ∧ Chg Noth w wr ∧ wr.ownsRow w.heap.size 5 1 l' q (marks mkBytes i fr q)) (fun _ k' _ => fr + n - (intOf k').toNat)
  case atStart => exact ⟨0, Nat.zero_le _, rfl, Chg.refl _ _, World.ownsRow_nil _ _ _ _⟩
  case round =>
    obtain ⟨q, hq, rfl, hc, hown⟩ := hrel
    obtain ⟨A7, c7, rfl⟩ := own_shape hown
    have hs := hc.size
    by_cases hlt : q < n
    · go_wp2_with (at_builtin; (refine wpList_append_own _ rfl _ _ 68 rfl w.heap.size 5 i0 _ 1 1 Tryz.underlying68 hi0 hz0 hz1 hz2 rfl (by decide) (.slice A7 q c7) q (marks mkBytes i fr q) rfl (own_chg (F := Noth) hown (by repeat (with_reducible first | exact Chg.refl _ _ | refine chg_m ?_ _ | refine chg_g ?_ _ | refine chg_alloc ?_ _ | refine chg_drew ?_ | refine chg_drewN ?_ _ | refine chg_set ?_ _ _ _)) fun _ _ e => e) ⟨_, 0, none⟩ 1 1 (mkBytes i (fr + q)) rfl rfl (World.news_of_block (cs := (mkBytes i (fr + q)).toArray) (by simp only [mkBytes, Int.natCast_add]; exact heap_alloc_hs _ _ _)) (by intro u hu; simp [mkBytes] at hu; rcases hu with rfl <;> rfl) (by simp only [maxLen]; omega) (by omega) (by simp; omega) ?_); intro v1 w1 hown1 hg1 _; obtain ⟨A9, c9, rfl⟩ := own_shape hown1)
      have hc1 : Chg Noth w w1 := (show Chg Noth w _ from (by repeat (with_reducible first | exact hc | exact Chg.refl _ _ | refine chg_m ?_ _ | refine chg_g ?_ _ | refine chg_alloc ?_ _ | refine chg_drew ?_ | refine chg_drewN ?_ _ | refine chg_set ?_ _ _ _))).trans (Chg.of_grown hg1) fun x hx e => by have := (hown.lt x e).1; omega
      exact ⟨⟨q + 1, by omega, by simp; omega, hc1, by rw [marks_succ]; exact hown1⟩, by simp [intOf]; omega⟩
    · obtain rfl : q = n := by omega
      have HO := Lib.hid hown
      clear hown
      go_wp2
      exact bodyPost_ret (v := .slice A7 q c7) (by simp [results, Tryz.results115, go_sem]) rfl ⟨A7, c7, rfl, HO.out, muts_ex hc⟩

theorem sameBytes_any' (A B : Option Addr) (c d n : Nat) (xs : List Value) (w : World) (hg : goodBytes xs) (hA : SL w (.slice A n c) n 1 xs) (hB : SL w (.slice B n d) n 1 xs) (hle : n ≤ 2000000000) :
    Calls Tryz.prog 104 #[.slice A n c, .slice B n d] w (Gr (.bool true) w) := by
  obtain ⟨l, rfl⟩ := hg
  have hl : n = l.length := by have := hA.1; simpa using this.symm
  exact sameBytes_any A B c d l n hl w hA hB (by omega)

def mkGrams (i k : Nat) : List Value := [i64 (-1 - i), i64 k, i64 0, .slice none 0 0]
theorem mkGrams_len (i k : Nat) : (mkGrams i k).length = 4 := rfl

theorem markGrams_any (i fr n : Nat) (w : World) (hi : i ≤ 1000) (hn : fr + n ≤ 2000000000) :
    Calls Tryz.prog 120 #[i64 i, i64 fr, i64 n] w fun e w' => ∃ A c, e = .returned (.slice A n c) ∧ w'.ownsRow w.heap.size 110 4 (.slice A n c) n (marks mkGrams i fr n) ∧ ∃ g : Grows w, w' = g.w := by
  obtain ⟨i0, hi0, hz0, hz1, hz2⟩ := info_parts infoGrams
  go_enter Tryz.func120, Tryz.ntmps120
  go_wp2
  go_loopw [7, 8] (fun l' k' wr => ∃ q : Nat, q ≤ n ∧ k' = .int .i64 ((fr + q : Nat) : Int) ∧ Chg Noth w wr ∧ wr.ownsRow w.heap.size 110 4 l' q (marks mkGrams i fr q)) (fun _ k' _ => fr + n - (intOf k').toNat)
  case atStart => exact ⟨0, Nat.zero_le _, rfl, Chg.refl _ _, World.ownsRow_nil _ _ _ _⟩
  case round =>
    obtain ⟨q, hq, rfl, hc, hown⟩ := hrel
    obtain ⟨A7, c7, rfl⟩ := own_shape hown
    have hs := hc.size
    by_cases hlt : q < n
    · go_wp2_with (at_builtin; (refine wpList_append_own _ rfl _ _ 58 rfl w.heap.size 110 i0 _ 4 48 Tryz.underlying58 hi0 hz0 hz1 hz2 rfl (by decide) (.slice A7 q c7) q (marks mkGrams i fr q) rfl (own_chg (F := Noth) hown (by repeat (with_reducible first | exact Chg.refl _ _ | refine chg_m ?_ _ | refine chg_g ?_ _ | refine chg_alloc ?_ _ | refine chg_drew ?_ | refine chg_drewN ?_ _ | refine chg_set ?_ _ _ _)) fun _ _ e => e) ⟨_, 0, none⟩ 1 1 (mkGrams i (fr + q)) rfl rfl (World.news_of_block (cs := (mkGrams i (fr + q)).toArray) (by simp only [mkGrams, Int.natCast_add]; exact heap_alloc_hs _ _ _)) (by intro u hu; simp [mkGrams] at hu; rcases hu with rfl | rfl | rfl | rfl <;> rfl) (by simp only [maxLen]; omega) (by omega) (by simp; omega) ?_); intro v1 w1 hown1 hg1 _; obtain ⟨A9, c9, rfl⟩ := own_shape hown1)
      have hc1 : Chg Noth w w1 := (show Chg Noth w _ from (by repeat (with_reducible first | exact hc | exact Chg.refl _ _ | refine chg_m ?_ _ | refine chg_g ?_ _ | refine chg_alloc ?_ _ | refine chg_drew ?_ | refine chg_drewN ?_ _ | refine chg_set ?_ _ _ _))).trans (Chg.of_grown hg1) fun x hx e => by have := (hown.lt x e).1; omega
      exact ⟨⟨q + 1, by omega, by simp; omega, hc1, by rw [marks_succ]; exact hown1⟩, by simp [intOf]; omega⟩
    · obtain rfl : q = n := by omega
      have HO := Lib.hid hown
      clear hown
      go_wp2
      exact bodyPost_ret (v := .slice A7 q c7) (by simp [results, Tryz.results120, go_sem]) rfl ⟨A7, c7, rfl, HO.out, muts_ex hc⟩

theorem sameGrams_any' (A B : Option Addr) (c d n : Nat) (xs : List Value) (w : World) (hg : goodGrams xs) (hA : SL w (.slice A n c) n 4 xs) (hB : SL w (.slice B n d) n 4 xs) (hle : n ≤ 2000000000) :
    Calls Tryz.prog 108 #[.slice A n c, .slice B n d] w (Gr (.bool true) w) := by
  obtain ⟨l, rfl⟩ := hg
  have hl : n = l.length := by
    have h1 := hA.1
    rw [flatMap_len (sz := 4) _ (fun _ => rfl)] at h1
    omega
  rcases Nat.eq_zero_or_pos n with h0 | hp
  · clear hA hB hl
    subst h0
    go_enter Tryz.func108, Tryz.ntmps108
    go_wp2
    refine wp_loop_rounds 1 ?_
    rw [rounds_succ]
    go_wp2
    go_ret
    exact gr_same rfl
  · obtain ⟨b, off, rfl, hb, hcA⟩ := sl_at hA hp
    obtain ⟨b', off', rfl, hb', hcB⟩ := sl_at hB hp
    have i1 : Old b w := ⟨hb⟩
    have i2 : Old b' w := ⟨hb'⟩
    clear hA hB
    have HN := Lib.hid hl
    clear hl
    go_enter Tryz.func108, Tryz.ntmps108
    go_wp2
    go_loopw [5] (fun i wr => ∃ (k : Nat) (g : Grows w), k ≤ n ∧ i = .int .i64 k ∧ wr = g.w) (fun i _ => n - (intOf i).toNat)
    case atStart => exact ⟨0, ⟨w, Chg.refl _ _⟩, Nat.zero_le _, rfl, rfl⟩
    case round =>
      obtain ⟨k, g, hk, rfl, rfl⟩ := hrel
      by_cases hlt : k < n
      · have hkl : k < l.length := by have := HN.out; omega
        obtain ⟨x, hx⟩ : ∃ x, l[k]? = some x := ⟨_, List.getElem?_eq_getElem hkl⟩
        have a0 := hcA (k * 4 + 0) _ ((flatMap_get (sz := 4) _ (fun _ => rfl) l k 0 x hx (by decide)).trans rfl)
        have b0 := hcB (k * 4 + 0) _ ((flatMap_get (sz := 4) _ (fun _ => rfl) l k 0 x hx (by decide)).trans rfl)
        have a1 := hcA (k * 4 + 1) _ ((flatMap_get (sz := 4) _ (fun _ => rfl) l k 1 x hx (by decide)).trans rfl)
        have b1 := hcB (k * 4 + 1) _ ((flatMap_get (sz := 4) _ (fun _ => rfl) l k 1 x hx (by decide)).trans rfl)
        have a2 := hcA (k * 4 + 2) _ ((flatMap_get (sz := 4) _ (fun _ => rfl) l k 2 x hx (by decide)).trans rfl)
        have b2 := hcB (k * 4 + 2) _ ((flatMap_get (sz := 4) _ (fun _ => rfl) l k 2 x hx (by decide)).trans rfl)
        simp only [Nat.add_zero] at a0 b0
        simp only [← Nat.add_assoc] at a1 b1
        simp only [← Nat.add_assoc] at a2 b2
        clear hx hcA hcB
        go_wp2
        refine wp_region_grows (by kernel_rfl) (by kernel_rfl) ?_
        repeat (go_big_quiet_step (fail))
        refine wpQuiet_nil ?_
        rintro _ ⟨g2, rfl⟩
        go_wp2
        go_roundw
        case rel => exact ⟨k + 1, g.join g2, by omega, by go_num, rfl⟩
        case measure => simp [intOf]; omega
      · go_wp2
        go_ret
        exact gr_mk rfl (by repeat (with_reducible first | exact Chg.refl _ _ | refine chg_m ?_ _ | refine chg_g ?_ _ | refine chg_alloc ?_ _ | refine chg_drew ?_ | refine chg_drewN ?_ _ | refine chg_set ?_ _ _ _))

def mkInts (i k : Nat) : List Value := [i64 (-1000000 * i - k - 7)]
theorem mkInts_len (i k : Nat) : (mkInts i k).length = 1 := rfl

theorem markInts_any (i fr n : Nat) (w : World) (hi : i ≤ 1000) (hn : fr + n ≤ 2000000000) :
    Calls Tryz.prog 111 #[i64 i, i64 fr, i64 n] w fun e w' => ∃ A c, e = .returned (.slice A n c) ∧ w'.ownsRow w.heap.size 3 1 (.slice A n c) n (marks mkInts i fr n) ∧ ∃ g : Grows w, w' = g.w := by
  obtain ⟨i0, hi0, hz0, hz1, hz2⟩ := info_parts infoInts
  go_enter Tryz.func111, Tryz.ntmps111
  go_wp2
  go_loopw [7, 8] (fun l' k' wr => ∃ q : Nat, q ≤ n ∧ k' = .int .i64 ((fr + q : Nat) : Int) ∧ Chg Noth w wr ∧ wr.ownsRow w.heap.size 3 1 l' q (marks mkInts i fr q)) (fun _ k' _ => fr + n - (intOf k').toNat)
  case atStart => exact ⟨0, Nat.zero_le _, rfl, Chg.refl _ _, World.ownsRow_nil _ _ _ _⟩
  case round =>
    obtain ⟨q, hq, rfl, hc, hown⟩ := hrel
    obtain ⟨A7, c7, rfl⟩ := own_shape hown
    have hs := hc.size
    by_cases hlt : q < n
    · go_wp2_with (at_builtin; (refine wpList_append_own _ rfl _ _ 29 rfl w.heap.size 3 i0 _ 1 8 Tryz.underlying29 hi0 hz0 hz1 hz2 rfl (by decide) (.slice A7 q c7) q (marks mkInts i fr q) rfl (own_chg (F := Noth) hown (by repeat (with_reducible first | exact Chg.refl _ _ | refine chg_m ?_ _ | refine chg_g ?_ _ | refine chg_alloc ?_ _ | refine chg_drew ?_ | refine chg_drewN ?_ _ | refine chg_set ?_ _ _ _)) fun _ _ e => e) ⟨_, 0, none⟩ 1 1 (mkInts i (fr + q)) rfl rfl (World.news_of_block (cs := (mkInts i (fr + q)).toArray) (by simp only [mkInts, Int.natCast_add]; exact heap_alloc_hs _ _ _)) (by intro u hu; simp [mkInts] at hu; rcases hu with rfl <;> rfl) (by simp only [maxLen]; omega) (by omega) (by simp; omega) ?_); intro v1 w1 hown1 hg1 _; obtain ⟨A9, c9, rfl⟩ := own_shape hown1)
      have hc1 : Chg Noth w w1 := (show Chg Noth w _ from (by repeat (with_reducible first | exact hc | exact Chg.refl _ _ | refine chg_m ?_ _ | refine chg_g ?_ _ | refine chg_alloc ?_ _ | refine chg_drew ?_ | refine chg_drewN ?_ _ | refine chg_set ?_ _ _ _))).trans (Chg.of_grown hg1) fun x hx e => by have := (hown.lt x e).1; omega
      exact ⟨⟨q + 1, by omega, by simp; omega, hc1, by rw [marks_succ]; exact hown1⟩, by simp [intOf]; omega⟩
    · obtain rfl : q = n := by omega
      have HO := Lib.hid hown
      clear hown
      go_wp2
      exact bodyPost_ret (v := .slice A7 q c7) (by simp [results, Tryz.results111, go_sem]) rfl ⟨A7, c7, rfl, HO.out, muts_ex hc⟩

theorem sameInts_any' (A B : Option Addr) (c d n : Nat) (xs : List Value) (w : World) (hg : goodInts xs) (hA : SL w (.slice A n c) n 1 xs) (hB : SL w (.slice B n d) n 1 xs) (hle : n ≤ 2000000000) :
    Calls Tryz.prog 13 #[.slice A n c, .slice B n d] w (Gr (.bool true) w) := by
  obtain ⟨l, rfl⟩ := hg
  have hl : n = l.length := by
    have h1 := hA.1
    rw [List.length_map] at h1
    omega
  rcases Nat.eq_zero_or_pos n with h0 | hp
  · clear hA hB hl
    subst h0
    go_enter Tryz.func13, Tryz.ntmps13
    go_wp2
    refine wp_loop_rounds 1 ?_
    rw [rounds_succ]
    go_wp2
    go_ret
    exact gr_same rfl
  · obtain ⟨b, off, rfl, hb, hcA⟩ := sl_at hA hp
    obtain ⟨b', off', rfl, hb', hcB⟩ := sl_at hB hp
    have i1 : Old b w := ⟨hb⟩
    have i2 : Old b' w := ⟨hb'⟩
    clear hA hB
    have HN := Lib.hid hl
    clear hl
    go_enter Tryz.func13, Tryz.ntmps13
    go_wp2
    go_loopw [5] (fun i wr => ∃ (k : Nat) (g : Grows w), k ≤ n ∧ i = .int .i64 k ∧ wr = g.w) (fun i _ => n - (intOf i).toNat)
    case atStart => exact ⟨0, ⟨w, Chg.refl _ _⟩, Nat.zero_le _, rfl, rfl⟩
    case round =>
      obtain ⟨k, g, hk, rfl, rfl⟩ := hrel
      by_cases hlt : k < n
      · have hkl : k < l.length := by have := HN.out; omega
        obtain ⟨x, hx⟩ : ∃ x, l[k]? = some x := ⟨_, List.getElem?_eq_getElem hkl⟩
        have a0 := hcA k (i64 x) (by rw [List.getElem?_map, hx]; rfl)
        have b0 := hcB k (i64 x) (by rw [List.getElem?_map, hx]; rfl)
        clear hx hcA hcB
        go_wp2
        refine wp_region_grows (by kernel_rfl) (by kernel_rfl) ?_
        repeat (go_big_quiet_step (fail))
        refine wpQuiet_nil ?_
        rintro _ ⟨g2, rfl⟩
        go_wp2
        go_roundw
        case rel => exact ⟨k + 1, g.join g2, by omega, by go_num, rfl⟩
        case measure => simp [intOf]; omega
      · go_wp2
        go_ret
        exact gr_mk rfl (by repeat (with_reducible first | exact Chg.refl _ _ | refine chg_m ?_ _ | refine chg_g ?_ _ | refine chg_alloc ?_ _ | refine chg_drew ?_ | refine chg_drewN ?_ _ | refine chg_set ?_ _ _ _))

def mkNotices (i k : Nat) : List Value := [i64 (-1 - i), i64 k, i64 0]
theorem mkNotices_len (i k : Nat) : (mkNotices i k).length = 3 := rfl

theorem markNotices_any (i fr n : Nat) (w : World) (hi : i ≤ 1000) (hn : fr + n ≤ 2000000000) :
    Calls Tryz.prog 114 #[i64 i, i64 fr, i64 n] w fun e w' => ∃ A c, e = .returned (.slice A n c) ∧ w'.ownsRow w.heap.size 81 3 (.slice A n c) n (marks mkNotices i fr n) ∧ ∃ g : Grows w, w' = g.w := by
  obtain ⟨i0, hi0, hz0, hz1, hz2⟩ := info_parts infoNotices
  go_enter Tryz.func114, Tryz.ntmps114
  go_wp2
  go_loopw [7, 8] (fun l' k' wr => ∃ q : Nat, q ≤ n ∧ k' = .int .i64 ((fr + q : Nat) : Int) ∧ Chg Noth w wr ∧ wr.ownsRow w.heap.size 81 3 l' q (marks mkNotices i fr q)) (fun _ k' _ => fr + n - (intOf k').toNat)
  case atStart => exact ⟨0, Nat.zero_le _, rfl, Chg.refl _ _, World.ownsRow_nil _ _ _ _⟩
  case round =>
    obtain ⟨q, hq, rfl, hc, hown⟩ := hrel
    obtain ⟨A7, c7, rfl⟩ := own_shape hown
    have hs := hc.size
    by_cases hlt : q < n
    · go_wp2_with (at_builtin; (refine wpList_append_own _ rfl _ _ 33 rfl w.heap.size 81 i0 _ 3 24 Tryz.underlying33 hi0 hz0 hz1 hz2 rfl (by decide) (.slice A7 q c7) q (marks mkNotices i fr q) rfl (own_chg (F := Noth) hown (by repeat (with_reducible first | exact Chg.refl _ _ | refine chg_m ?_ _ | refine chg_g ?_ _ | refine chg_alloc ?_ _ | refine chg_drew ?_ | refine chg_drewN ?_ _ | refine chg_set ?_ _ _ _)) fun _ _ e => e) ⟨_, 0, none⟩ 1 1 (mkNotices i (fr + q)) rfl rfl (World.news_of_block (cs := (mkNotices i (fr + q)).toArray) (by simp only [mkNotices, Int.natCast_add]; exact heap_alloc_hs _ _ _)) (by intro u hu; simp [mkNotices] at hu; rcases hu with rfl | rfl | rfl <;> rfl) (by simp only [maxLen]; omega) (by omega) (by simp; omega) ?_); intro v1 w1 hown1 hg1 _; obtain ⟨A9, c9, rfl⟩ := own_shape hown1)
      have hc1 : Chg Noth w w1 := (show Chg Noth w _ from (by repeat (with_reducible first | exact hc | exact Chg.refl _ _ | refine chg_m ?_ _ | refine chg_g ?_ _ | refine chg_alloc ?_ _ | refine chg_drew ?_ | refine chg_drewN ?_ _ | refine chg_set ?_ _ _ _))).trans (Chg.of_grown hg1) fun x hx e => by have := (hown.lt x e).1; omega
      exact ⟨⟨q + 1, by omega, by simp; omega, hc1, by rw [marks_succ]; exact hown1⟩, by simp [intOf]; omega⟩
    · obtain rfl : q = n := by omega
      have HO := Lib.hid hown
      clear hown
      go_wp2
      exact bodyPost_ret (v := .slice A7 q c7) (by simp [results, Tryz.results114, go_sem]) rfl ⟨A7, c7, rfl, HO.out, muts_ex hc⟩

theorem sameNotices_any' (A B : Option Addr) (c d n : Nat) (xs : List Value) (w : World) (hg : goodNotices xs) (hA : SL w (.slice A n c) n 3 xs) (hB : SL w (.slice B n d) n 3 xs) (hle : n ≤ 2000000000) :
    Calls Tryz.prog 14 #[.slice A n c, .slice B n d] w (Gr (.bool true) w) := by
  obtain ⟨l, rfl⟩ := hg
  have hl : n = l.length := by
    have h1 := hA.1
    rw [flatMap_len (sz := 3) _ (fun _ => rfl)] at h1
    omega
  rcases Nat.eq_zero_or_pos n with h0 | hp
  · clear hA hB hl
    subst h0
    go_enter Tryz.func14, Tryz.ntmps14
    go_wp2
    refine wp_loop_rounds 1 ?_
    rw [rounds_succ]
    go_wp2
    go_ret
    exact gr_same rfl
  · obtain ⟨b, off, rfl, hb, hcA⟩ := sl_at hA hp
    obtain ⟨b', off', rfl, hb', hcB⟩ := sl_at hB hp
    have i1 : Old b w := ⟨hb⟩
    have i2 : Old b' w := ⟨hb'⟩
    clear hA hB
    have HN := Lib.hid hl
    clear hl
    go_enter Tryz.func14, Tryz.ntmps14
    go_wp2
    go_loopw [5] (fun i wr => ∃ (k : Nat) (g : Grows w), k ≤ n ∧ i = .int .i64 k ∧ wr = g.w) (fun i _ => n - (intOf i).toNat)
    case atStart => exact ⟨0, ⟨w, Chg.refl _ _⟩, Nat.zero_le _, rfl, rfl⟩
    case round =>
      obtain ⟨k, g, hk, rfl, rfl⟩ := hrel
      by_cases hlt : k < n
      · have hkl : k < l.length := by have := HN.out; omega
        obtain ⟨x, hx⟩ : ∃ x, l[k]? = some x := ⟨_, List.getElem?_eq_getElem hkl⟩
        have a0 := hcA (k * 3 + 0) _ ((flatMap_get (sz := 3) _ (fun _ => rfl) l k 0 x hx (by decide)).trans rfl)
        have b0 := hcB (k * 3 + 0) _ ((flatMap_get (sz := 3) _ (fun _ => rfl) l k 0 x hx (by decide)).trans rfl)
        have a1 := hcA (k * 3 + 1) _ ((flatMap_get (sz := 3) _ (fun _ => rfl) l k 1 x hx (by decide)).trans rfl)
        have b1 := hcB (k * 3 + 1) _ ((flatMap_get (sz := 3) _ (fun _ => rfl) l k 1 x hx (by decide)).trans rfl)
        have a2 := hcA (k * 3 + 2) _ ((flatMap_get (sz := 3) _ (fun _ => rfl) l k 2 x hx (by decide)).trans rfl)
        have b2 := hcB (k * 3 + 2) _ ((flatMap_get (sz := 3) _ (fun _ => rfl) l k 2 x hx (by decide)).trans rfl)
        simp only [Nat.add_zero] at a0 b0
        simp only [← Nat.add_assoc] at a1 b1
        simp only [← Nat.add_assoc] at a2 b2
        clear hx hcA hcB
        go_wp2
        refine wp_region_grows (by kernel_rfl) (by kernel_rfl) ?_
        repeat (go_big_quiet_step (fail))
        refine wpQuiet_nil ?_
        rintro _ ⟨g2, rfl⟩
        go_wp2
        go_roundw
        case rel => exact ⟨k + 1, g.join g2, by omega, by go_num, rfl⟩
        case measure => simp [intOf]; omega
      · go_wp2
        go_ret
        exact gr_mk rfl (by repeat (with_reducible first | exact Chg.refl _ _ | refine chg_m ?_ _ | refine chg_g ?_ _ | refine chg_alloc ?_ _ | refine chg_drew ?_ | refine chg_drewN ?_ _ | refine chg_set ?_ _ _ _))
end Go.Proofs.YteemkceceaabkaaGreat
