/- The document's bag: copied, has, At. -/
import Derived.Test.YteemkceceaabkaaGreatI
namespace Go.Proofs.YteemkceceaabkaaGreat
open Go.RowKit Go.Ear
set_option maxHeartbeats 1000000
set_option maxRecDepth 20000

theorem copiedR_some (id fr to : Int) (ad : Addr) (c : Nat) (l : List UInt8) (w : World) (h : SL w (.slice (some ad) l.length c) l.length 1 (bv l)) (hn : l.length ≤ 140737488351232) :
    Calls Tryz.prog 126 #[gv id fr to (.slice (some ad) l.length c)] w fun e w' => ∃ v, e = .returned (gv id fr to v) ∧ Own1 w' w.heap.size v l ∧ ∃ g : Grows w, w' = g.w := by
  obtain ⟨i0, hi, hz0, hz1, hz2⟩ := info_parts info5
  have h1 := bv_one l
  have hc : ∀ W, Chg Noth w W → ∀ j u, (bv l)[j]? = some u → W.cell? (ad.add j) = some u := fun W hW => (h.grow hW).addr
  go_enter Tryz.func126, Tryz.ntmps126
  go_wp2_with (at_builtin; refine wpList_append_own _ rfl _ _ 68 rfl (w.heap.size + 1 + 1) 5 i0 _ 1 1 Tryz.underlying68 hi hz0 hz1 hz2 rfl (by decide) (.slice none 0 0) 0 [] rfl (World.ownsRow_nil _ _ _ _) ad l.length c (bv l) rfl (by simp) (hc _ (by repeat (with_reducible first | exact Chg.refl _ _ | refine chg_m ?_ _ | refine chg_g ?_ _ | refine chg_alloc ?_ _ | refine chg_drew ?_ | refine chg_drewN ?_ _ | refine chg_set ?_ _ _ _))) h1 (by simp only [maxLen]; omega) (by omega) (by simp <;> omega) ?_; intro v1 w1 hown1 hg1 _; simp only [Nat.zero_add, List.nil_append] at hown1; obtain ⟨A1, c1, rfl⟩ := own_shape hown1; have hC1 := (Chg.of_grown hg1).mono (G := Noth) (fun _ _ e => by simp [Value.ownBlock] at e); obtain ⟨g1, rfl⟩ := muts_ex hC1; clear hg1 hC1)
  have m1 : May w.heap.size (fun k => k < w.heap.size + 1 + 1) g1.w := ⟨.inl (by omega)⟩
  have m2 : May (w.heap.size + 1) (fun k => k < w.heap.size + 1 + 1) g1.w := ⟨.inl (by omega)⟩
  exact bodyPost_ret (v := gv id fr to (.slice A1 l.length c1)) (by simp [results, Tryz.results126, go_sem]) rfl ⟨_, rfl, own_base (own_chg (F := fun k => k < w.heap.size + 1 + 1) hown1 (by repeat (with_reducible first | exact Chg.refl _ _ | refine chg_m ?_ _ | refine chg_g ?_ _ | refine chg_alloc ?_ _ | refine chg_drew ?_ | refine chg_drewN ?_ _ | refine chg_set ?_ _ _ _)) fun k hk e => by have := (hown1.lt k hk).1; omega) (by omega), muts_ex (by repeat (with_reducible first | exact Chg.refl _ _ | refine chg_m ?_ _ | refine chg_g ?_ _ | refine chg_alloc ?_ _ | refine chg_drew ?_ | refine chg_drewN ?_ _ | refine chg_set ?_ _ _ _))⟩
theorem copiedR_none (id fr to : Int) (w : World) :
    Calls Tryz.prog 126 #[gv id fr to (.slice none 0 0)] w fun e w' => ∃ v, e = .returned (gv id fr to v) ∧ Own1 w' w.heap.size v [] ∧ ∃ g : Grows w, w' = g.w := by
  obtain ⟨i0, hi, hz0, hz1, hz2⟩ := info_parts info5
  go_enter Tryz.func126, Tryz.ntmps126
  go_wp2_with (at_builtin; refine wpList_append_own_none rfl _ _ 68 rfl w.heap.size 5 i0 1 Tryz.underlying68 hi (.slice none 0 0) 0 [] rfl (World.ownsRow_nil _ _ _ _) rfl ?_)
  exact bodyPost_ret (v := gv id fr to (.slice none 0 0)) (by simp [results, Tryz.results126, go_sem]) rfl ⟨_, rfl, World.ownsRow_nil _ _ _ _, muts_ex (by repeat (with_reducible first | exact Chg.refl _ _ | refine chg_m ?_ _ | refine chg_g ?_ _ | refine chg_alloc ?_ _ | refine chg_drew ?_ | refine chg_drewN ?_ _ | refine chg_set ?_ _ _ _))⟩
theorem copiedR_any (id fr to : Int) (A : Option Addr) (c : Nat) (l : List UInt8) (w : World) (h : SL w (.slice A l.length c) l.length 1 (bv l)) (hn : l.length ≤ 140737488351232) :
    Calls Tryz.prog 126 #[gv id fr to (.slice A l.length c)] w fun e w' => ∃ A c, e = .returned (gv id fr to (.slice A l.length c)) ∧ Own1 w' w.heap.size (.slice A l.length c) l ∧ ∃ g : Grows w, w' = g.w := by
  have fin : ∀ e w', (∃ v, e = Ending.returned (gv id fr to v) ∧ Own1 w' w.heap.size v l ∧ ∃ g : Grows w, w' = g.w) → ∃ A c, e = .returned (gv id fr to (.slice A l.length c)) ∧ Own1 w' w.heap.size (.slice A l.length c) l ∧ ∃ g : Grows w, w' = g.w := by
    rintro e w' ⟨v', rfl, ho, hg⟩
    obtain ⟨A, c, rfl⟩ := own_shape ho
    exact ⟨A, c, rfl, ho, hg⟩
  have h' := h
  obtain ⟨_, A', c', e, h0, _⟩ := h
  cases e
  rcases A with _ | ad
  · obtain ⟨e0, rfl⟩ := h0 rfl
    obtain rfl := List.eq_nil_of_length_eq_zero e0
    exact (copiedR_none id fr to w).mono fin
  · exact (copiedR_some id fr to ad c l w h' hn).mono fin
end Go.Proofs.YteemkceceaabkaaGreat
