/- out: a datagram is taken off its place. -/
import Derived.Test.YteemkceceaabkaaGreatC
namespace Go.Proofs.YteemkceceaabkaaGreat
open Go.RowKit Go.Ear
set_option maxHeartbeats 1000000

theorem heap_setCells_row {g : Nat} {t : TypeId} : ∀ (vs : List Value) (o : Nat) (w : World) (cs : Array Value), w.heap[g]? = some (.cells cs t (0, 0)) → o + vs.length ≤ cs.size →
    ∃ cs', (w.setCells g o vs).heap[g]? = some (.cells cs' t (0, 0)) ∧ cs'.size = cs.size ∧ cs'.toList.take (o + vs.length) = cs.toList.take o ++ vs
  | [], o, w, cs, h, _ => ⟨cs, h, rfl, by simp⟩
  | v :: r, o, w, cs, h, hl => by
    simp only [List.length_cons] at hl
    have h1 := heap_setCell_same w g o cs t v h
    obtain ⟨cs', e1, e2, e3⟩ := heap_setCells_row r (o + 1) _ _ h1 (by simp; omega)
    refine ⟨cs', e1, by simpa using e2, ?_⟩
    have e4 : o + (v :: r).length = o + 1 + r.length := by simp; omega
    rw [e4, e3]
    have e5 : (cs.setIfInBounds o v).toList.take (o + 1) = cs.toList.take o ++ [v] := by
      rw [Array.toList_setIfInBounds, List.take_set, List.take_succ_eq_append_getElem (by simp; omega)]
      rw [List.set_append_right _ _ (by simp; omega)]
      simp [List.length_take]
      have : min o cs.size = o := by omega
      simp [this]
    rw [e5]
    simp
theorem own_setCells {w : World} {base : Nat} {e : TypeId} {sz n m q g cap o : Nat} {xs vs : List Value} (h : w.ownsRow base e sz (.slice (some ⟨g, 0, none⟩) n cap) n xs) (ho : o = m * sz) (hm : m ≤ n) (hv : vs.length = q * sz) (hq : m + q ≤ cap) :
    (w.setCells g o vs).ownsRow base e sz (.slice (some ⟨g, 0, none⟩) (m + q) cap) (m + q) (xs.take o ++ vs) := by
  obtain ⟨hl, h2⟩ := h
  rcases h2 with ⟨h', _⟩ | ⟨g', cap', cur, h', hb, hg, hnc, hcm, hcs, htake⟩
  · simp at h'
  · simp only [Value.slice.injEq, Option.some.injEq, Addr.mk.injEq, and_true, true_and] at h'
    obtain ⟨rfl, rfl⟩ := h'
    have hle : o + vs.length ≤ cur.size := by
      rw [ho, hv, hcs, ← Nat.add_mul]
      exact Nat.mul_le_mul_right sz hq
    have hon : o ≤ n * sz := by rw [ho]; exact Nat.mul_le_mul_right sz hm
    obtain ⟨cs', e1, e2, e3⟩ := heap_setCells_row vs o w cur hg hle
    have e4 : (m + q) * sz = o + vs.length := by rw [Nat.add_mul, ho, hv]
    have e5 : cur.toList.take o = xs.take o := by rw [← htake, List.take_take, Nat.min_eq_left hon]
    refine ⟨by rw [List.length_append, List.length_take, hl, Nat.min_eq_left hon, e4], .inr ⟨g, cap, cs', rfl, hb, e1, hq, hcm, by rw [e2, hcs], by rw [e4, e3, e5]⟩⟩
theorem chg_setCells {F : Nat → Prop} {a b : World} (h : Chg F a b) (g o : Nat) (vs : List Value) (hm : F g ∨ a.heap.size ≤ g) : Chg F a (b.setCells g o vs) := by
  induction vs generalizing o b with
  | nil => exact h
  | cons v r ih =>
    have : May g F a := ⟨hm⟩
    exact ih (chg_set h g o v) (o + 1)

theorem hcells_len (l : List Gm) (vs : List Value) (h : vs.length = l.length) : (flat l vs).length = l.length * 4 := by
  unfold flat
  induction l generalizing vs with
  | nil => simp
  | cons g l ih =>
    match vs, h with
    | v :: vs, h => simp only [List.zip_cons_cons, List.flatMap_cons, List.length_append, ih vs (by simpa using h)]; simp [hcells]; omega
theorem flat_split (l : List Gm) (vs : List Value) (i : Nat) (g : Gm) (v : Value) (h : vs.length = l.length) (hg : l[i]? = some g) (hv : vs[i]? = some v) :
    flat l vs = flat (l.take i) (vs.take i) ++ (hcells (g, v) ++ flat (l.drop (i + 1)) (vs.drop (i + 1))) := by
  induction l generalizing vs i with
  | nil => simp at hg
  | cons x l ih =>
    match vs, h with
    | y :: vs, h =>
      cases i with
      | zero => simp at hg hv; subst hg hv; simp [flat]
      | succ i =>
        have := ih vs i (by simpa using h) (by simpa using hg) (by simpa using hv)
        simp only [flat, List.zip_cons_cons, List.flatMap_cons, List.take_succ_cons, List.drop_succ_cons] at this ⊢
        rw [this]
        simp
end Go.Proofs.YteemkceceaabkaaGreat
