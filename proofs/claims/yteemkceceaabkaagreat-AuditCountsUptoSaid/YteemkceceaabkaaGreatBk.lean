/- The book of lists, what it holds: lists of their own, and copies of them; whatever is put in. -/
import Derived.Test.YteemkceceaabkaaGreatP8
namespace Go.Ear
open Go.RowKit

/-- A list that is kept, the copy of it, how many elements, the cells. -/
structure Kept where
  a : Value
  b : Value
  n : Nat
  xs : List Value
/-- A kind of lists: the row of the lists, the row of their copies, the lists. -/
structure Kind where
  v : Value
  u : Value
  its : List Kept
/-- What a kind is: the type of a list, of an element, how many cells an element has, what cells a list has. -/
structure KindT where
  T : TypeId
  e : TypeId
  sz : Nat
  good : List Value → Prop

def KindOK (w : World) (t : KindT) (k : Kind) : Prop :=
  k.its.length ≤ 400 ∧ w.ownsRow 0 t.T 1 k.v k.its.length (k.its.map Kept.a) ∧ w.ownsRow 0 t.T 1 k.u k.its.length (k.its.map Kept.b) ∧
  ∀ it ∈ k.its, it.n ≤ 1000000000 ∧ t.good it.xs ∧ w.ownsRow 0 t.e t.sz it.a it.n it.xs ∧ w.ownsRow 0 t.e t.sz it.b it.n it.xs

/-- Is block x the value's own? -/
def own1 (x : Nat) (v : Value) : Nat := if v.ownBlock = some x then 1 else 0
def kcnt (x : Nat) (k : Kind) : Nat := own1 x k.v + own1 x k.u + (k.its.map fun it => own1 x it.a + own1 x it.b).sum
/-- How often block x occurs in the book. -/
def bcnt (p : Nat) (ks : List Kind) (x : Nat) : Nat := (if x = p then 1 else 0) + (ks.map (kcnt x)).sum

structure BookAt (KT : List KindT) (BT : TypeId) (w : World) (p : Nat) (ks : List Kind) : Prop where
  heap : w.heap[p]? = some (.cells (ks.flatMap fun k => [k.v, k.u]).toArray BT (0, 0))
  ok : ∀ (i : Nat) (t : KindT) (k : Kind), KT[i]? = some t → ks[i]? = some k → KindOK w t k
  len : ks.length = KT.length
  apart : ∀ x, bcnt p ks x ≤ 1

/-- Of the blocks those that the book's functions write: the book itself, and the rows of lists. -/
def ccnt (p : Nat) (ks : List Kind) (x : Nat) : Nat := (if x = p then 1 else 0) + (ks.map fun k => own1 x k.v + own1 x k.u).sum
/-- A book: C the blocks that its functions write, F all its blocks. -/
def BookIs (KT : List KindT) (BT : TypeId) (w : World) (p : Nat) (C F : Nat → Prop) : Prop := ∃ ks, BookAt KT BT w p ks ∧ (∀ x, C x ↔ 0 < ccnt p ks x) ∧ ∀ x, F x ↔ 0 < bcnt p ks x

theorem own1_one {x : Nat} {v : Value} (h : v.ownBlock = some x) : own1 x v = 1 := by simp [own1, h]
theorem own1_le (x : Nat) (v : Value) : own1 x v ≤ 1 := by unfold own1; split <;> omega
theorem own1_pos {x : Nat} {v : Value} (h : 0 < own1 x v) : v.ownBlock = some x := by
  unfold own1 at h
  split at h
  · assumption
  · omega
theorem sum_pos : ∀ {l : List Nat}, 0 < l.sum → ∃ y ∈ l, 0 < y
  | [], h => by simp at h
  | y :: l, h => by
    rcases Nat.eq_zero_or_pos y with rfl | hy
    · simp only [List.sum_cons, Nat.zero_add] at h
      obtain ⟨z, hz, hp⟩ := sum_pos h
      exact ⟨z, List.mem_cons_of_mem _ hz, hp⟩
    · exact ⟨y, List.mem_cons_self, hy⟩
theorem sum_ge : ∀ {l : List Nat} {y : Nat}, y ∈ l → y ≤ l.sum
  | z :: l, y, h => by
    simp only [List.sum_cons]
    rcases List.mem_cons.1 h with rfl | h
    · omega
    · have := sum_ge h; omega
theorem sum_set (f : Kind → Nat) : ∀ (l : List Kind) (i : Nat) (k k' : Kind), l[i]? = some k → ((l.set i k').map f).sum + f k = (l.map f).sum + f k'
  | c :: l, 0, k, k', h => by
    simp at h; subst h
    simp only [List.set_cons_zero, List.map_cons, List.sum_cons]; omega
  | c :: l, i + 1, k, k', h => by
    have := sum_set f l i k k' (by simpa using h)
    simp only [List.set_cons_succ, List.map_cons, List.sum_cons]; omega

section
variable {KT : List KindT} {BT : TypeId} {w w' : World} {p i : Nat} {ks : List Kind} {k : Kind} {t : KindT}

theorem kcnt_lt {x : Nat} (h : KindOK w t k) (hx : 0 < kcnt x k) : x < w.heap.size := by
  obtain ⟨_, hv, hu, hi⟩ := h
  unfold kcnt at hx
  by_cases h1 : 0 < own1 x k.v
  · exact (hv.lt x (own1_pos h1)).2
  by_cases h2 : 0 < own1 x k.u
  · exact (hu.lt x (own1_pos h2)).2
  obtain ⟨y, hy, hp⟩ := sum_pos (l := k.its.map fun it => own1 x it.a + own1 x it.b) (by omega)
  obtain ⟨it, hit, rfl⟩ := List.mem_map.1 hy
  obtain ⟨_, _, ha, hb⟩ := hi it hit
  by_cases h3 : 0 < own1 x it.a
  · exact (ha.lt x (own1_pos h3)).2
  · exact (hb.lt x (own1_pos (v := it.b) (by omega))).2

theorem BookAt.kind (h : BookAt KT BT w p ks) (hk : ks[i]? = some k) : ∃ t, KT[i]? = some t ∧ KindOK w t k := by
  have hi : i < ks.length := (List.getElem?_eq_some_iff.1 hk).1
  have : i < KT.length := by rw [← h.len]; exact hi
  exact ⟨KT[i], List.getElem?_eq_getElem this, h.ok i _ k (List.getElem?_eq_getElem this) hk⟩
theorem BookAt.lt {x : Nat} (h : BookAt KT BT w p ks) (hx : 0 < bcnt p ks x) : x < w.heap.size := by
  unfold bcnt at hx
  by_cases hp : x = p
  · subst hp; exact (Array.getElem?_eq_some_iff.1 h.heap).1
  rw [if_neg hp] at hx
  obtain ⟨y, hy, hpos⟩ := sum_pos (l := ks.map (kcnt x)) (by omega)
  obtain ⟨k, hk, rfl⟩ := List.mem_map.1 hy
  obtain ⟨i, hi⟩ := List.getElem?_of_mem hk
  obtain ⟨t, _, ht⟩ := h.kind hi
  exact kcnt_lt ht hpos

theorem kcnt_le {x : Nat} (hk : ks[i]? = some k) : kcnt x k ≤ bcnt p ks x := by
  have := sum_ge (l := ks.map (kcnt x)) (List.mem_map.2 ⟨k, List.mem_of_getElem? hk, rfl⟩)
  unfold bcnt; omega

theorem own_keep {e : TypeId} {sz n base : Nat} {v : Value} {xs : List Value} {G : Nat → Prop} (h : w.ownsRow base e sz v n xs) (hc : Chg G w w') (hG : ∀ x, G x → own1 x v = 0) : w'.ownsRow base e sz v n xs :=
  own_chg h hc fun x hx hg => by have := hG x hg; simp [own1, hx] at this

theorem its_le {x : Nat} {it : Kept} (h : it ∈ k.its) : own1 x it.a + own1 x it.b ≤ (k.its.map fun it => own1 x it.a + own1 x it.b).sum :=
  sum_ge (List.mem_map.2 ⟨it, h, rfl⟩)

theorem KindOK.chg {G : Nat → Prop} (h : KindOK w t k) (hc : Chg G w w') (hG : ∀ x, G x → kcnt x k = 0) : KindOK w' t k := by
  obtain ⟨h4, hv, hu, hi⟩ := h
  refine ⟨h4, own_keep hv hc fun x hx => ?_, own_keep hu hc fun x hx => ?_, fun it hit => ?_⟩
  · have := hG x hx; unfold kcnt at this; omega
  · have := hG x hx; unfold kcnt at this; omega
  · obtain ⟨a1, a2, a3, a4⟩ := hi it hit
    refine ⟨a1, a2, own_keep a3 hc fun x hx => ?_, own_keep a4 hc fun x hx => ?_⟩
    · have h1 := hG x hx; have h2 := its_le (x := x) hit; unfold kcnt at h1; omega
    · have h1 := hG x hx; have h2 := its_le (x := x) hit; unfold kcnt at h1; omega

theorem BookAt.chg {G : Nat → Prop} (h : BookAt KT BT w p ks) (hc : Chg G w w') (hG : ∀ x, G x → bcnt p ks x = 0) : BookAt KT BT w' p ks := by
  refine ⟨?_, fun i t k ht hk => (h.ok i t k ht hk).chg hc fun x hx => ?_, h.len, h.apart⟩
  · rw [hc.block p (Array.getElem?_eq_some_iff.1 h.heap).1 (fun hp => by have := hG p hp; simp [bcnt] at this)]
    exact h.heap
  · have h1 := hG x hx; have h2 := kcnt_le (p := p) (x := x) hk; omega

theorem ccnt_le (p : Nat) (ks : List Kind) (x : Nat) : ccnt p ks x ≤ bcnt p ks x := by
  have : ∀ l : List Kind, (l.map fun k => own1 x k.v + own1 x k.u).sum ≤ (l.map (kcnt x)).sum := fun l => by
    induction l with
    | nil => simp
    | cons c l ih =>
      simp only [List.map_cons, List.sum_cons]
      have : own1 x c.v + own1 x c.u ≤ kcnt x c := by unfold kcnt; omega
      omega
  have := this ks
  unfold ccnt bcnt; omega
theorem BookIs.core {C F : Nat → Prop} (h : BookIs KT BT w p C F) : ∀ x, C x → F x := by
  obtain ⟨ks, hb, hC, hF⟩ := h
  intro x hx
  rw [hC] at hx
  have := ccnt_le p ks x
  exact (hF x).2 (by omega)
theorem BookIs.chg {C F G : Nat → Prop} (h : BookIs KT BT w p C F) (hc : Chg G w w') (hG : ∀ x, G x → ¬ F x) : BookIs KT BT w' p C F := by
  obtain ⟨ks, hb, hC, hF⟩ := h
  exact ⟨ks, hb.chg hc fun x hx => by have := hG x hx; rw [hF] at this; omega, hC, hF⟩
theorem BookIs.grow {C F : Nat → Prop} (h : BookIs KT BT w p C F) (hc : Chg Noth w w') : BookIs KT BT w' p C F := h.chg hc fun _ hx => hx.elim
theorem BookIs.lt {C F : Nat → Prop} (h : BookIs KT BT w p C F) : ∀ x, F x → x < w.heap.size := by
  obtain ⟨ks, hb, _, hF⟩ := h
  exact fun x hx => hb.lt ((hF x).1 hx)
theorem BookIs.self {C F : Nat → Prop} (h : BookIs KT BT w p C F) : C p := by
  obtain ⟨ks, hb, hC, _⟩ := h
  exact (hC p).2 (by simp only [ccnt, if_pos]; omega)
theorem flat_set : ∀ (ks : List Kind) (i : Nat) (v' u' : Value) (l : List Kept), i < ks.length →
    (((ks.flatMap fun k => [k.v, k.u]).toArray.setIfInBounds (2 * i) v').setIfInBounds (2 * i + 1) u') = ((ks.set i ⟨v', u', l⟩).flatMap fun k => [k.v, k.u]).toArray
  | [], i, _, _, _, hi => by simp at hi
  | c :: l, 0, v', u', _, hi => by simp
  | c :: l, i + 1, v', u', q, hi => by
    have := flat_set l i v' u' q (by simpa using hi)
    simp only [List.flatMap_cons, List.set_cons_succ, List.setIfInBounds_toArray, List.cons_append, List.nil_append, Array.mk.injEq] at this ⊢
    rw [show 2 * (i + 1) = 2 * i + 1 + 1 by omega]
    simp only [List.set_cons_succ, List.cons.injEq, true_and]
    exact this

/-- What has been put in. -/
theorem BookAt.add (h : BookAt KT BT w p ks) (ht : KT[i]? = some t) (hk : ks[i]? = some k) {a b v' u' : Value} {n : Nat} {xs : List Value}
    (hlen : k.its.length < 400) (hn : n ≤ 1000000000) (hg : t.good xs) (ha : w.ownsRow 0 t.e t.sz a n xs) (hna : ∀ x, a.ownBlock = some x → bcnt p ks x = 0)
    (hC : Chg (fun x => x = p ∨ k.v.ownBlock = some x ∨ k.u.ownBlock = some x) w w')
    (hv : w'.ownsRow 0 t.T 1 v' (k.its.length + 1) (k.its.map Kept.a ++ [a])) (hu : w'.ownsRow 0 t.T 1 u' (k.its.length + 1) (k.its.map Kept.b ++ [b]))
    (hb : w'.ownsRow w.heap.size t.e t.sz b n xs)
    (fv : ∀ x, v'.ownBlock = some x → k.v.ownBlock = some x ∨ w.heap.size ≤ x) (fu : ∀ x, u'.ownBlock = some x → k.u.ownBlock = some x ∨ w.heap.size ≤ x)
    (d1 : ∀ x, v'.ownBlock = some x → u'.ownBlock = some x → w.heap.size ≤ x → False) (d2 : ∀ x, v'.ownBlock = some x → b.ownBlock = some x → False) (d3 : ∀ x, u'.ownBlock = some x → b.ownBlock = some x → False)
    (hp : w'.heap[p]? = some (.cells (((ks.flatMap fun k => [k.v, k.u]).toArray.setIfInBounds (2 * i) v').setIfInBounds (2 * i + 1) u') BT (0, 0))) :
    BookAt KT BT w' p (ks.set i ⟨v', u', k.its ++ [⟨a, b, n, xs⟩]⟩) ∧
      (∀ x, 0 < ccnt p (ks.set i ⟨v', u', k.its ++ [⟨a, b, n, xs⟩]⟩) x → 0 < ccnt p ks x ∨ w.heap.size ≤ x) ∧
      ∀ x, 0 < bcnt p (ks.set i ⟨v', u', k.its ++ [⟨a, b, n, xs⟩]⟩) x → 0 < bcnt p ks x ∨ a.ownBlock = some x ∨ w.heap.size ≤ x := by
  have hok := h.ok i t k ht hk
  have hi : i < ks.length := (List.getElem?_eq_some_iff.1 hk).1
  generalize hk' : (⟨v', u', k.its ++ [⟨a, b, n, xs⟩]⟩ : Kind) = k'
  have hcnt : ∀ x, bcnt p (ks.set i k') x + kcnt x k = bcnt p ks x + kcnt x k' := fun x => by
    have := sum_set (kcnt x) ks i k k' hk
    unfold bcnt; omega
  have hkc : ∀ x, kcnt x k' = own1 x v' + own1 x u' + ((k.its.map fun it => own1 x it.a + own1 x it.b).sum + (own1 x a + own1 x b)) := fun x => by
    rw [← hk']; simp [kcnt]
  have hkk : ∀ x, kcnt x k = own1 x k.v + own1 x k.u + (k.its.map fun it => own1 x it.a + own1 x it.b).sum := fun x => rfl
  have hold : ∀ x, w.heap.size ≤ x → bcnt p ks x = 0 := fun x hx => by
    rcases Nat.eq_zero_or_pos (bcnt p ks x) with h0 | h0
    · exact h0
    · have := h.lt h0; omega
  have hle : ∀ x, kcnt x k ≤ bcnt p ks x := fun x => kcnt_le hk
  have hal : ∀ x, w.heap.size ≤ x → own1 x a = 0 := fun x hx => by
    rcases Nat.eq_zero_or_pos (own1 x a) with h0 | h0
    · exact h0
    · have := (ha.lt x (own1_pos h0)).2; omega
  have hbl : ∀ x, x < w.heap.size → own1 x b = 0 := fun x hx => by
    rcases Nat.eq_zero_or_pos (own1 x b) with h0 | h0
    · exact h0
    · have := (hb.lt x (own1_pos h0)).1; omega
  have hvl : ∀ x, x < w.heap.size → own1 x v' ≤ own1 x k.v := fun x hx => by
    rcases Nat.eq_zero_or_pos (own1 x v') with h0 | h0
    · omega
    · rcases fv x (own1_pos h0) with h1 | h1
      · rw [own1_one h1]; exact own1_le _ _
      · omega
  have hul : ∀ x, x < w.heap.size → own1 x u' ≤ own1 x k.u := fun x hx => by
    rcases Nat.eq_zero_or_pos (own1 x u') with h0 | h0
    · omega
    · rcases fu x (own1_pos h0) with h1 | h1
      · rw [own1_one h1]; exact own1_le _ _
      · omega
  have haz : ∀ x, 0 < own1 x a → bcnt p ks x = 0 := fun x hx => hna x (own1_pos hx)
  refine ⟨⟨?_, fun j tj kj htj hkj => ?_, by simpa using h.len, fun x => ?_⟩, fun x hx => ?_, fun x hx => ?_⟩
  · rw [hp, ← hk', flat_set ks i v' u' _ hi]
  · by_cases hij : j = i
    · subst hij
      rw [ht] at htj; cases htj
      rw [List.getElem?_set_self hi] at hkj; cases hkj
      rw [← hk']
      obtain ⟨h4, hv0, hu0, hit⟩ := hok
      refine ⟨by simp; omega, by simpa using hv, by simpa using hu, fun it hmem => ?_⟩
      rcases List.mem_append.1 hmem with hm | hm
      · obtain ⟨a1, a2, a3, a4⟩ := hit it hm
        have hz : ∀ x, (x = p ∨ k.v.ownBlock = some x ∨ k.u.ownBlock = some x) → own1 x it.a = 0 ∧ own1 x it.b = 0 := fun x hx => by
          have h1 := its_le (x := x) hm
          have h2 := h.apart x
          have h3 := hle x
          have h5 := hkk x
          rcases hx with rfl | hx | hx
          · have : 1 + kcnt x k ≤ bcnt x ks x := by
              have := sum_ge (l := ks.map (kcnt x)) (List.mem_map.2 ⟨k, List.mem_of_getElem? hk, rfl⟩)
              unfold bcnt; simp; omega
            omega
          · have := own1_one hx; omega
          · have := own1_one hx; omega
        exact ⟨a1, a2, own_keep a3 hC fun x hx => (hz x hx).1, own_keep a4 hC fun x hx => (hz x hx).2⟩
      · simp at hm
        subst hm
        refine ⟨hn, hg, own_keep ha hC fun x hx => ?_, own_base hb (Nat.zero_le _)⟩
        rcases Nat.eq_zero_or_pos (own1 x a) with h0 | h0
        · exact h0
        · have h1 := haz x h0
          have h3 := hle x
          have h5 := hkk x
          rcases hx with rfl | hx | hx
          · simp [bcnt] at h1
          · have := own1_one hx; omega
          · have := own1_one hx; omega
    · rw [List.getElem?_set_ne (fun e => hij e.symm)] at hkj
      refine (h.ok j tj kj htj hkj).chg hC fun x hx => ?_
      have h1 : kcnt x kj + kcnt x k ≤ (ks.map (kcnt x)).sum := by
        have h0 := sum_set (kcnt x) ks i k ⟨.bool true, .bool true, []⟩ hk
        have h2 : kcnt x ⟨.bool true, .bool true, []⟩ = 0 := by simp [kcnt, own1, Value.ownBlock]
        have h3 := sum_ge (l := (ks.set i ⟨.bool true, .bool true, []⟩).map (kcnt x)) (List.mem_map.2 ⟨kj, List.mem_of_getElem? (by rw [List.getElem?_set_ne (fun e => hij e.symm)]; exact hkj), rfl⟩)
        omega
      have h2 := h.apart x
      unfold bcnt at h2
      have h5 := hkk x
      rcases hx with rfl | hx | hx
      · simp at h2; omega
      · have := own1_one hx; omega
      · have := own1_one hx; omega
  · have h1 := hcnt x
    have h2 := hkc x
    have h3 := hkk x
    have h4 := h.apart x
    have h5 := hle x
    by_cases hx : x < w.heap.size
    · have e1 := hbl x hx
      have e2 := hvl x hx
      have e3 := hul x hx
      rcases Nat.eq_zero_or_pos (own1 x a) with h0 | h0
      · omega
      · have := haz x h0
        have := own1_le x a
        omega
    · have e1 := hold x (by omega)
      have e2 := hal x (by omega)
      have a1 := own1_le x v'
      have a2 := own1_le x u'
      have a3 := own1_le x b
      have b1 : ¬ (0 < own1 x v' ∧ 0 < own1 x u') := fun ⟨y, z⟩ => d1 x (own1_pos y) (own1_pos z) (by omega)
      have b2 : ¬ (0 < own1 x v' ∧ 0 < own1 x b) := fun ⟨y, z⟩ => d2 x (own1_pos y) (own1_pos z)
      have b3 : ¬ (0 < own1 x u' ∧ 0 < own1 x b) := fun ⟨y, z⟩ => d3 x (own1_pos y) (own1_pos z)
      omega
  · have h1 := sum_set (fun k => own1 x k.v + own1 x k.u) ks i k k' hk
    have h2 := sum_ge (l := ks.map fun k => own1 x k.v + own1 x k.u) (List.mem_map.2 ⟨k, List.mem_of_getElem? hk, rfl⟩)
    have h3 : own1 x k'.v + own1 x k'.u = own1 x v' + own1 x u' := by rw [← hk']
    by_cases hs : x < w.heap.size
    · have e2 := hvl x hs
      have e3 := hul x hs
      exact .inl (by unfold ccnt at hx ⊢; omega)
    · exact .inr (by omega)
  · have h1 := hcnt x
    have h2 := hkc x
    have h3 := hkk x
    have h5 := hle x
    by_cases hs : x < w.heap.size
    · rcases Nat.eq_zero_or_pos (own1 x a) with h0 | h0
      · have e1 := hbl x hs
        have e2 := hvl x hs
        have e3 := hul x hs
        exact .inl (by omega)
      · exact .inr (.inl (own1_pos h0))
    · exact .inr (.inr (by omega))
end
end Go.Ear
