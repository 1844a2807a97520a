/- LentNotices, the reference's Rising, StaysNotices. -/
import Derived.Test.YtkbebhkbijgbgaaR
import Derived.Deep.AppendLies
import Derived.Laws.AppendOwnNone
namespace Go.Proofs.Ytkbebhkbijgbgaa
open Go.RowKit Go.Ear
set_option maxHeartbeats 1000000

theorem info23 : (Try.prog.info? 23).map (fun i => (i.zero, i.size, i.bytes)) = some (some (.agg #[.int .i64 0, .int .i64 0, .int .i64 0]), 3, 24) := by kernel_rfl

/-- The cells of n notices. -/
def ncells (f : Nat → Int × Int × Int) (n : Nat) : List Value := (List.range n).flatMap fun i => [i64 (f i).1, i64 (f i).2.1, i64 (f i).2.2]
theorem ncells_len (f : Nat → Int × Int × Int) (n : Nat) : (ncells f n).length = n * 3 := by
  unfold ncells
  induction n with
  | zero => rfl
  | succ n ih => rw [List.range_succ, List.flatMap_append, List.length_append, ih]; simp; omega
theorem ncells_succ (f : Nat → Int × Int × Int) (n : Nat) : ncells f (n + 1) = ncells f n ++ [i64 (f n).1, i64 (f n).2.1, i64 (f n).2.2] := by
  unfold ncells
  rw [List.range_succ, List.flatMap_append]; simp
theorem ncells_at (f : Nat → Int × Int × Int) {n i : Nat} (h : i < n) :
    (ncells f n)[i * 3]? = some (i64 (f i).1) ∧ (ncells f n)[i * 3 + 1]? = some (i64 (f i).2.1) ∧ (ncells f n)[i * 3 + 2]? = some (i64 (f i).2.2) := by
  induction n with
  | zero => omega
  | succ n ih =>
    rw [ncells_succ]
    have hl := ncells_len f n
    by_cases e : i = n
    · subst e
      refine ⟨?_, ?_, ?_⟩ <;> rw [List.getElem?_append_right (by omega), hl] <;> simp
    · obtain ⟨a, b, c⟩ := ih (by omega)
      refine ⟨?_, ?_, ?_⟩ <;> rw [List.getElem?_append_left (by omega)] <;> assumption
theorem ncells_one (f : Nat → Int × Int × Int) (n : Nat) : ∀ u ∈ ncells f n, u.oneCell' = true := by
  intro u hu
  simp only [ncells, List.mem_flatMap] at hu
  obtain ⟨i, _, hi⟩ := hu
  simp at hi
  rcases hi with rfl | rfl | rfl <;> rfl
theorem ncells_congr {f f' : Nat → Int × Int × Int} {n : Nat} (h : ∀ i, i < n → f i = f' i) : ncells f n = ncells f' n := by
  induction n with
  | zero => rfl
  | succ n ih => rw [ncells_succ, ncells_succ, ih (fun i hi => h i (by omega)), h n (by omega)]

/-- What is lent: the list, and three marks behind it. -/
def lentF (f : Nat → Int × Int × Int) (n : Nat) (i : Nat) : Int × Int × Int := if i < n then f i else (-7, ((i - n : Nat) : Int), 0)

theorem NL_cells {w : World} {b off n : Nat} {f : Nat → Int × Int × Int} (h : NL w (some ⟨b, off, none⟩) n f) : ∀ j u, (ncells f n)[j]? = some u → w.cell? ((⟨b, off, none⟩ : Addr).add j) = some u := by
  intro j u hu
  have hj : j < n * 3 := by
    have := ncells_len f n
    rcases Nat.lt_or_ge j (n * 3) with h | h
    · exact h
    · rw [List.getElem?_eq_none (by omega)] at hu; cases hu
  obtain ⟨b', off', e, _, hc⟩ := h (by omega)
  simp only [Option.some.injEq, Addr.mk.injEq, and_true] at e
  obtain ⟨rfl, rfl⟩ := e
  obtain ⟨c0, c1, c2⟩ := hc (j / 3) (by omega)
  obtain ⟨d0, d1, d2⟩ := ncells_at f (show j / 3 < n by omega)
  rw [Go.WideShapes.add_plain]
  have hm : j % 3 = 0 ∨ j % 3 = 1 ∨ j % 3 = 2 := by omega
  rcases hm with e | e | e
  · have ej : j = j / 3 * 3 := by omega
    rw [ej] at hu ⊢
    rw [d0] at hu; cases hu; exact c0
  · have ej : j = j / 3 * 3 + 1 := by omega
    rw [ej] at hu ⊢
    rw [d1] at hu; cases hu; exact c1
  · have ej : j = j / 3 * 3 + 2 := by omega
    rw [ej] at hu ⊢
    rw [d2] at hu; cases hu; exact c2

/-- What LentNotices answers: a new slice, marks behind it. -/
def Lent (f : Nat → Int × Int × Int) (n : Nat) (w : World) (e : Ending) (w' : World) : Prop :=
  ∃ g cap, e = .returned (.slice (some ⟨g, 0, none⟩) n cap) ∧ n + 3 ≤ cap ∧ NL w' (some ⟨g, 0, none⟩) (n + 3) (lentF f n) ∧ ∃ gr : Grows w, w' = gr.w

theorem lent_end {f : Nat → Int × Int × Int} {n : Nat} {w w' : World} {g cap : Nat} (hown : w'.ownsRow w.heap.size 23 3 (.slice (some ⟨g, 0, none⟩) (n + 3) cap) (n + 3) (ncells (lentF f n) (n + 3)))
    (hb : Below w.heap.size w w') : n + 3 ≤ cap ∧ NL w' (some ⟨g, 0, none⟩) (n + 3) (lentF f n) ∧ ∃ gr : Grows w, w' = gr.w := by
  have hlt := hown.lt g rfl
  refine ⟨?_, ?_, ⟨w', hb⟩, rfl⟩
  · rcases hown.2 with ⟨h, _⟩ | ⟨g', cap', cur, h, _, _, hc, _⟩
    · simp at h
    · simp only [Value.slice.injEq] at h
      omega
  · intro _
    refine ⟨g, 0, rfl, hlt.2, fun i hi => ?_⟩
    obtain ⟨d0, d1, d2⟩ := ncells_at (lentF f n) hi
    have hl := ncells_len (lentF f n) (n + 3)
    rw [Nat.zero_add]
    exact ⟨(hown.cellAt _ (by omega)).trans d0, (hown.cellAt _ (by omega)).trans d1, (hown.cellAt _ (by omega)).trans d2⟩

theorem lent_body (A : Option Addr) (n c : Nat) (f : Nat → Int × Int × Int) (w : World) (hn : n * 24 ≤ 140737488351232) (ad : Addr) (hA : A = some ad) (hc : ∀ j u, (ncells f n)[j]? = some u → w.cell? (ad.add j) = some u) :
    Calls Try.prog 19 #[.slice A n c] w (Lent f n w) := by
  obtain ⟨i0, hi, hz0, hz1, hz2⟩ := info_parts info23
  have hl := ncells_len f n
  have h1 := ncells_one f n
  subst hA
  go_enter Try.func19, Try.ntmps19
  go_wp2_with (at_builtin; refine wpList_append_own _ rfl _ _ 33 rfl w.heap.size 23 i0 _ 3 24 Try.underlying33 hi hz0 hz1 hz2 rfl (by decide) (.slice none 0 0) 0 [] rfl (World.ownsRow_nil _ _ _ _) ad n c (ncells f n) rfl hl hc h1 (by simp only [maxLen]; omega) (by omega) (Nat.le_refl _) ?_; intro v1 w1 hown1 hg1 _)
  have hb1 : Below w.heap.size w w1 := (Below.refl _ _).grown hg1 (Nat.le_refl _) (by simp [Value.ownBlock])
  simp only [Nat.zero_add, List.nil_append] at hown1
  clear hc h1 hg1
  have e0 : ncells f n = ncells (lentF f n) n := ncells_congr fun i hi => by simp [lentF, hi]
  rw [e0] at hown1
  clear e0
  go_loopw [3, 4] (fun v i wr => ∃ k : Nat, k ≤ 3 ∧ i = .int .i64 k ∧ wr.ownsRow w.heap.size 23 3 v (n + k) (ncells (lentF f n) (n + k)) ∧ Below w.heap.size w wr) (fun _ i _ => 3 - (intOf i).toNat)
  case atStart => exact ⟨0, by omega, rfl, hown1, hb1⟩
  case round =>
    obtain ⟨k, hk, rfl, hown, hb⟩ := hrel
    have hsz := hb.size
    by_cases hlt : k < 3
    · have hnew : ncells (lentF f n) (n + k + 1) = ncells (lentF f n) (n + k) ++ [i64 (-7), i64 k, i64 0] := by
        have hge : ¬ n + k < n := by omega
        rw [ncells_succ]
        simp [lentF, hge]
      have HN := Lib.hid hnew
      clear hnew hown1
      go_wp2_with (at_builtin; refine wpList_append_own _ rfl _ _ 33 rfl w.heap.size 23 i0 _ 3 24 Try.underlying33 hi hz0 hz1 hz2 rfl (by decide) _ _ _ rfl (hown.alloc _) ⟨wr.heap.size, 0, none⟩ 1 1 [i64 (-7), i64 k, i64 0] rfl rfl ?c1 ?c2 ?c3 ?c4 ?c5 ?_)
      case c1 =>
        intro j u hj
        match j, hj with
        | 0, hj => simp at hj; subst hj; simp [Addr.add]
        | 1, hj => simp at hj; subst hj; simp [Addr.add]
        | 2, hj => simp at hj; subst hj; simp [Addr.add]
      case c2 => intro u hu; simp at hu; rcases hu with rfl | rfl | rfl <;> rfl
      case c3 => simp only [maxLen]; omega
      case c4 => omega
      case c5 => simp; omega
      intro v' w1' hown' hgrow _
      rw [← HN.out] at hown'
      have hb' : Below w.heap.size w w1' := (hb.alloc hsz _).grown hgrow (by simp; omega) (fun b hb' => (hown.lt b hb').1)
      clear hgrow hown HN
      go_wp2
      go_roundw
      case rel => exact ⟨k + 1, by omega, by go_num, hown', hb'⟩
      case measure => simp [intOf]; omega
    · have hk3 : k = 3 := by omega
      subst hk3
      obtain ⟨g, cap, rfl, _⟩ := hown.form (by omega)
      obtain ⟨h1, h2, h3⟩ := lent_end hown hb
      have h1' : n ≤ cap := by omega
      clear hown1 hown
      go_wp2
      go_ret
      exact ⟨g, cap, rfl, h1, h2, h3⟩

theorem lent_nil (f : Nat → Int × Int × Int) (w : World) : Calls Try.prog 19 #[.slice none 0 0] w (Lent f 0 w) := by
  obtain ⟨i0, hi, hz0, hz1, hz2⟩ := info_parts info23
  have hn : 0 ≤ 140737488351232 := by omega
  go_enter Try.func19, Try.ntmps19
  go_wp2_with (at_builtin; refine wpList_append_own_none rfl _ _ 33 rfl w.heap.size 23 i0 3 Try.underlying33 hi (.slice none 0 0) 0 [] rfl (World.ownsRow_nil _ _ _ _) rfl ?_)
  have hown1 : w.ownsRow w.heap.size 23 3 (.slice none 0 0) 0 (ncells f 0) := World.ownsRow_nil _ _ _ _
  have hb1 : Below w.heap.size w w := Below.refl _ _
  have e0 : ncells f 0 = ncells (lentF f 0) 0 := ncells_congr fun i hi => absurd hi (by omega)
  rw [e0] at hown1
  clear e0
  go_loopw [3, 4] (fun v i wr => ∃ k : Nat, k ≤ 3 ∧ i = .int .i64 k ∧ wr.ownsRow w.heap.size 23 3 v k (ncells (lentF f 0) k) ∧ Below w.heap.size w wr) (fun _ i _ => 3 - (intOf i).toNat)
  case atStart => exact ⟨0, by omega, rfl, hown1, hb1⟩
  case round =>
    obtain ⟨k, hk, rfl, hown, hb⟩ := hrel
    have hsz := hb.size
    by_cases hlt : k < 3
    · have hnew : ncells (lentF f 0) (k + 1) = ncells (lentF f 0) k ++ [i64 (-7), i64 k, i64 0] := by
        rw [ncells_succ]
        simp [lentF]
      have HN := Lib.hid hnew
      clear hnew hown1
      go_wp2_with (at_builtin; refine wpList_append_own _ rfl _ _ 33 rfl w.heap.size 23 i0 _ 3 24 Try.underlying33 hi hz0 hz1 hz2 rfl (by decide) _ _ _ rfl (hown.alloc _) ⟨wr.heap.size, 0, none⟩ 1 1 [i64 (-7), i64 k, i64 0] rfl rfl ?c1 ?c2 ?c3 ?c4 ?c5 ?_)
      case c1 =>
        intro j u hj
        match j, hj with
        | 0, hj => simp at hj; subst hj; simp [Addr.add]
        | 1, hj => simp at hj; subst hj; simp [Addr.add]
        | 2, hj => simp at hj; subst hj; simp [Addr.add]
      case c2 => intro u hu; simp at hu; rcases hu with rfl | rfl | rfl <;> rfl
      case c3 => simp only [maxLen]; omega
      case c4 => omega
      case c5 => simp; omega
      intro v' w1' hown' hgrow _
      rw [← HN.out] at hown'
      have hb' : Below w.heap.size w w1' := (hb.alloc hsz _).grown hgrow (by simp; omega) (fun b hb' => (hown.lt b hb').1)
      clear hgrow hown HN
      go_wp2
      go_roundw
      case rel => exact ⟨k + 1, by omega, by go_num, hown', hb'⟩
      case measure => simp [intOf]; omega
    · have hk3 : k = 3 := by omega
      subst hk3
      obtain ⟨g, cap, rfl, _⟩ := hown.form (by omega)
      obtain ⟨h1, h2, h3⟩ := lent_end hown hb
      have h1' : 0 ≤ cap := by omega
      clear hown1 hown
      go_wp2
      go_ret
      exact ⟨g, cap, rfl, h1, h2, h3⟩

theorem lent_any (A : Option Addr) (n c : Nat) (f : Nat → Int × Int × Int) (w : World) (hn : n * 24 ≤ 140737488351232) (h0 : A = none → n = 0 ∧ c = 0) (hA : NL w A n f) :
    Calls Try.prog 19 #[.slice A n c] w (Lent f n w) := by
  rcases A with _ | ad
  · obtain ⟨rfl, rfl⟩ := h0 rfl
    exact lent_nil f w
  · refine lent_body _ n c f w hn ad rfl ?_
    rcases Nat.eq_zero_or_pos n with rfl | hp
    · intro j u hu
      simp [ncells] at hu
    · obtain ⟨b, off, e, hb⟩ := hA hp
      cases e
      exact NL_cells hA
end Go.Proofs.Ytkbebhkbijgbgaa
