/- Take, At, Double, Send. -/
import Derived.Test.YteemkceceaabkaaGreatE
namespace Go.Proofs.YteemkceceaabkaaGreat
open Go.RowKit Go.Ear
set_option maxHeartbeats 1000000
set_option maxRecDepth 20000

theorem asked_bad {n : Nat} {i : Int} (h : i < 0 ∨ (n : Int) ≤ i) : askedF n [i] = 91 := by simp [askedF, h]
theorem asked_good {n i : Nat} (h : i < n) : askedF n [(i : Int)] = 0 := by simp [askedF]; omega

theorem take_bad (p : Nat) (B : BagS) (F : Nat → Prop) (i : Int) (w : World) (hB : IsBag w p B F) (h : i < 0 ∨ (B.l.length : Int) ≤ i) :
    Calls Tryz.prog 86 #[.pointer (some ⟨p, 0, none⟩), i64 i] w (Gr (.tuple #[gv 0 0 0 (.slice none 0 0), i64 91]) w) := by
  have ha := asked_bad h
  go_enter Tryz.func86, Tryz.ntmps86
  go_wp2_with (go_at_call 124; refine (asked_one p B F _ _ i _ (hB.grow (by repeat (with_reducible first | exact Chg.refl _ _ | refine chg_m ?_ _ | refine chg_g ?_ _ | refine chg_alloc ?_ _ | refine chg_drew ?_ | refine chg_drewN ?_ _ | refine chg_set ?_ _ _ _))) (by simp [go_sem]) (Old.lt (b := w.heap.size + 1))).mono ?_; rintro e w' ⟨rfl, g1, rfl⟩)
  exact bodyPost_ret (v := .tuple #[gv 0 0 0 (.slice none 0 0), i64 91]) (by simp [results, Tryz.results86, go_sem]) rfl (gr_mk rfl (by
    repeat (with_reducible first | exact Chg.refl _ _ | refine chg_m ?_ _ | refine chg_g ?_ _ | refine chg_alloc ?_ _ | refine chg_drew ?_ | refine chg_drewN ?_ _ | refine chg_set ?_ _ _ _)))
theorem at_bad (p : Nat) (B : BagS) (F : Nat → Prop) (i : Int) (w : World) (hB : IsBag w p B F) (h : i < 0 ∨ (B.l.length : Int) ≤ i) :
    Calls Tryz.prog 78 #[.pointer (some ⟨p, 0, none⟩), i64 i] w (Gr (.tuple #[gv 0 0 0 (.slice none 0 0), i64 91]) w) := by
  have ha := asked_bad h
  go_enter Tryz.func78, Tryz.ntmps78
  go_wp2_with (go_at_call 124; refine (asked_one p B F _ _ i _ (hB.grow (by repeat (with_reducible first | exact Chg.refl _ _ | refine chg_m ?_ _ | refine chg_g ?_ _ | refine chg_alloc ?_ _ | refine chg_drew ?_ | refine chg_drewN ?_ _ | refine chg_set ?_ _ _ _))) (by simp [go_sem]) (Old.lt (b := w.heap.size + 1))).mono ?_; rintro e w' ⟨rfl, g1, rfl⟩)
  exact bodyPost_ret (v := .tuple #[gv 0 0 0 (.slice none 0 0), i64 91]) (by simp [results, Tryz.results78, go_sem]) rfl (gr_mk rfl (by
    repeat (with_reducible first | exact Chg.refl _ _ | refine chg_m ?_ _ | refine chg_g ?_ _ | refine chg_alloc ?_ _ | refine chg_drew ?_ | refine chg_drewN ?_ _ | refine chg_set ?_ _ _ _)))
theorem take_good (p i : Nat) (B : BagS) (F : Nat → Prop) (w : World) (hB : IsBag w p B F) (x : Gm) (hx : B.l[i]? = some x) :
    Calls Tryz.prog 86 #[.pointer (some ⟨p, 0, none⟩), i64 i] w fun e w' => ∃ A c, e = .returned (.tuple #[gv x.id x.fr x.to (.slice A x.data.length c), i64 0]) ∧ w'.ownsRow 0 5 1 (.slice A x.data.length c) x.data.length (bv x.data) ∧
      ∃ (m : Muts F w) (F' : Nat → Prop), w' = m.w ∧ IsBag m.w p { B with l := B.l.eraseIdx i } F' ∧ (∀ k, F' k → F k) ∧ ∀ k, (Value.slice A x.data.length c).ownBlock = some k → F k ∧ ¬ F' k := by
  have ha := asked_good (List.getElem?_eq_some_iff.1 hx).1
  have hout := out_any p i B F
  have hFL : ∀ k, F k → k < w.heap.size := fun k hk => hB.lt hk
  have i9 : Foot F w := ⟨hFL⟩
  go_enter Tryz.func86, Tryz.ntmps86
  go_wp2_with (go_at_call 124; refine (asked_one p B F _ _ (i : Int) _ (hB.grow (by repeat (with_reducible first | exact Chg.refl _ _ | refine chg_m ?_ _ | refine chg_g ?_ _ | refine chg_alloc ?_ _ | refine chg_drew ?_ | refine chg_drewN ?_ _ | refine chg_set ?_ _ _ _))) (by simp [go_sem]) (Old.lt (b := w.heap.size + 1))).mono ?_; rintro e w' ⟨rfl, g1, rfl⟩)
  refine (hout _ (hB.grow (by repeat (with_reducible first | exact Chg.refl _ _ | refine chg_m ?_ _ | refine chg_g ?_ _ | refine chg_alloc ?_ _ | refine chg_drew ?_ | refine chg_drewN ?_ _ | refine chg_set ?_ _ _ _))) x hx).mono ?_
  rintro e w' ⟨A, c, rfl, ho, m, F', rfl, hB', hF', hA⟩
  have hne : ∀ k, F' k → k ≠ w.heap.size := fun k hk e => by have := hFL k (hF' k hk); omega
  have hne2 : ∀ k, (Value.slice A x.data.length c).ownBlock = some k → k ≠ w.heap.size := fun k hk e => by have := hFL k (hA k hk).1; omega
  have HX : ∀ Wf, Chg F w Wf → Chg (fun k => k = w.heap.size) m.w Wf → Wf.ownsRow 0 5 1 (.slice A x.data.length c) x.data.length (bv x.data) ∧ ∃ (m : Muts F w) (F' : Nat → Prop), Wf = m.w ∧ IsBag m.w p { B with l := B.l.eraseIdx i } F' ∧ (∀ k, F' k → F k) ∧
      ∀ k, (Value.slice A x.data.length c).ownBlock = some k → F k ∧ ¬ F' k := fun Wf h0 hc => ⟨own_chg ho hc hne2, ⟨Wf, h0⟩, F', rfl, hB'.chg hc hne, hF', hA⟩
  clear ho hB'
  go_wp2_with fail
  exact bodyPost_ret (v := .tuple #[gv x.id x.fr x.to (.slice A x.data.length c), i64 0]) (by simp [results, Tryz.results86, go_sem]) rfl ⟨A, c, rfl, HX _ (by
    repeat (with_reducible first | exact Chg.refl _ _ | refine chg_m ?_ _ | refine chg_g ?_ _ | refine chg_alloc ?_ _ | refine chg_drew ?_ | refine chg_drewN ?_ _ | refine chg_set ?_ _ _ _)) (by
    repeat (with_reducible first | exact Chg.refl _ _ | refine chg_m ?_ _ | refine chg_g ?_ _ | refine chg_alloc ?_ _ | refine chg_drew ?_ | refine chg_drewN ?_ _ | refine chg_set ?_ _ _ _))⟩

theorem at_good (p i : Nat) (B : BagS) (F : Nat → Prop) (w : World) (hB : IsBag w p B F) (x : Gm) (hx : B.l[i]? = some x) :
    Calls Tryz.prog 78 #[.pointer (some ⟨p, 0, none⟩), i64 i] w fun e w' => ∃ A c, e = .returned (.tuple #[gv x.id x.fr x.to (.slice A x.data.length c), i64 0]) ∧ Own1 w' w.heap.size (.slice A x.data.length c) x.data ∧ ∃ g : Grows w, w' = g.w := by
  have ha := asked_good (List.getElem?_eq_some_iff.1 hx).1
  have hB0 := hB
  obtain ⟨gs, vs, hr, hF⟩ := hB
  have hi : i < B.l.length := (List.getElem?_eq_some_iff.1 hx).1
  have hv : vs[i]? = some (vs[i]'(by rw [hr.len]; exact hi)) := List.getElem?_eq_getElem _
  generalize vs[i]'(by rw [hr.len]; exact hi) = v at hv
  have hd := hr.data i x v hx hv
  have hsm := hr.small x (List.mem_of_getElem? hx)
  have hsm' : x.data.length ≤ 140737488351232 := by omega
  obtain ⟨A, c, rfl⟩ := own_shape hd
  have hcop := copied_any x.id x.fr x.to A x.data.length c x.data
  obtain ⟨c0, c1, c2, _⟩ := hr.cells
  have i1 : Old p w := ⟨hr.plt⟩
  have hown := hr.own
  obtain ⟨g, cap, rfl, _, hg⟩ := hown.form (by omega)
  have i2 : Old g w := ⟨hg⟩
  obtain ⟨a0, a1, a2, a3⟩ := gram_cells hown hr.len hx hv
  go_enter Tryz.func78, Tryz.ntmps78
  go_wp2_with (go_at_call 124; refine (asked_one p B F _ _ (i : Int) _ (hB0.grow (by repeat (with_reducible first | exact Chg.refl _ _ | refine chg_m ?_ _ | refine chg_g ?_ _ | refine chg_alloc ?_ _ | refine chg_drew ?_ | refine chg_drewN ?_ _ | refine chg_set ?_ _ _ _))) (by simp [go_sem]) (Old.lt (b := w.heap.size + 1))).mono ?_; rintro e w' ⟨rfl, g1, rfl⟩)
  refine (hcop _ ((SL.of_own hd).grow (by repeat (with_reducible first | exact Chg.refl _ _ | refine chg_m ?_ _ | refine chg_g ?_ _ | refine chg_alloc ?_ _ | refine chg_drew ?_ | refine chg_drewN ?_ _ | refine chg_set ?_ _ _ _))) hsm').mono ?_
  rintro e w' ⟨A', c', rfl, ho, g3, rfl⟩
  have HX : ∀ Wf, Chg Noth w Wf → Chg (fun k => k < (g1.w).heap.size) (g1.join g3).w Wf → Own1 Wf w.heap.size (.slice A' x.data.length c') x.data ∧ ∃ g : Grows w, Wf = g.w := fun Wf h0 hc => ⟨own_up ho hc, muts_ex h0⟩
  clear ho hcop hd hr hown
  go_wp2_with fail
  exact bodyPost_ret (v := .tuple #[gv x.id x.fr x.to (.slice A' x.data.length c'), i64 0]) (by simp [results, Tryz.results78, go_sem]) rfl ⟨A', c', rfl, HX _ (by
    repeat (with_reducible first | exact Chg.refl _ _ | refine chg_m ?_ _ | refine chg_g ?_ _ | refine chg_alloc ?_ _ | refine chg_drew ?_ | refine chg_drewN ?_ _ | refine chg_set ?_ _ _ _)) (by
    repeat (with_reducible first | exact Chg.refl _ _ | refine chg_m ?_ _ | refine chg_g ?_ _ | refine chg_alloc ?_ _ | refine chg_drew ?_ | refine chg_drewN ?_ _ | refine chg_set ?_ _ _ _))⟩
end Go.Proofs.YteemkceceaabkaaGreat
