/- The book of lists: each list has memory of its own. -/
import Derived.Test.YteemkceceaabkaaGreatGw
set_option linter.unusedSimpArgs false
set_option linter.unusedVariables false
namespace Go.Proofs.YteemkceceaabkaaGreat
open Go.RowKit Go.Ear
set_option maxHeartbeats 4000000
set_option maxRecDepth 100000

theorem book_growAt {w w' : World} {p : Nat} {ks : List Kind} (h : BookAt KT 53 w p ks) (hc : Chg Noth w w') : BookAt KT 53 w' p ks := h.chg hc fun _ e => e.elim
/-- Some kind's list has block x. -/
def AF (ks : List Kind) (x : Nat) : Prop := ∃ d, FA ks d x
/-- The lists that the book itself has. -/
theorem book_lists {w : World} {p i : Nat} {ks : List Kind} {k : Kind} {t : KindT} {own : Nat → Prop} (h : BookP w p ks (CD 12) own) (hi : i < 12) (ht : KT[i]? = some t) (hk : ks[i]? = some k) :
    Lists w k.v t.sz (k.its.mapIdx fun j it => (it.a, it.n, XM i j it.n)) ∧ k.its.length ≤ 400 ∧ ∀ (j : Nat) (it : Value × Nat × List Value), (k.its.mapIdx fun j it => (it.a, it.n, XM i j it.n))[j]? = some it → it.2.1 ≤ 1500000000 ∧ it.2.2 = XM i j it.2.1 := by
  obtain ⟨h4, hv⟩ := h.vrow i t k ht hk
  have hm : (k.its.mapIdx fun j it => (it.a, it.n, XM i j it.n)).map (·.1) = k.its.map Kept.a := by
    apply List.ext_getElem?
    intro j
    rw [List.getElem?_map, List.getElem?_mapIdx, List.getElem?_map]
    cases k.its[j]? <;> rfl
  have hgx : ∀ (j : Nat) (it : Value × Nat × List Value), (k.its.mapIdx fun j it => (it.a, it.n, XM i j it.n))[j]? = some it → ∃ a, k.its[j]? = some a ∧ it = (a.a, a.n, XM i j a.n) := fun j it hj => by
    rw [List.getElem?_mapIdx] at hj
    cases hq : k.its[j]? with
    | none => rw [hq] at hj; cases hj
    | some a => rw [hq] at hj; cases hj; exact ⟨a, rfl, rfl⟩
  refine ⟨⟨?_, fun it hit => ?_⟩, h4, fun j it hj => ?_⟩
  · rw [hm, List.length_mapIdx]
    exact SL.of_own hv
  · obtain ⟨j, hj⟩ := List.getElem?_of_mem hit
    obtain ⟨a, ha, rfl⟩ := hgx j it hj
    have := (h.els i t k j a ht hk ha).2.2
    rwa [show CD 12 i j a = XM i j a.n from by unfold CD; rw [if_pos hi]] at this
  · obtain ⟨a, ha, rfl⟩ := hgx j it hj
    have := (h.els i t k j a ht hk ha).1
    exact ⟨by simpa using Nat.le_trans this (by decide), rfl⟩

theorem book_own12 {w : World} {p : Nat} {ks : List Kind} (h : BookP w p ks (CD 12) (fun _ => True)) : BookP w p ks (CD 12) (fun q => 0 ≤ q) :=
  ⟨h.heap, h.len, h.apart, h.vrow, h.few, fun i t k j it ht hk hj => ⟨(h.els i t k j it ht hk hj).1, fun _ => (h.els i t k j it ht hk hj).2.1 trivial, (h.els i t k j it ht hk hj).2.2⟩⟩

theorem apart_any (p : Nat) (C F : Nat → Prop) (w : World) (hB : BookIs KT 53 w p C F) :
    Calls Tryz.prog 18 #[.pointer (some ⟨p, 0, none⟩)] w fun e w' => e = .returned (.bool true) ∧ Chg F w w' := by
  obtain ⟨ks, h, _, hF⟩ := hB
  have hAF : ∀ d x, FA ks d x → F x := fun d x hx => (hF x).2 hx.cnt
  have hpl := (Array.getElem?_eq_some_iff.1 h.heap).1
  go_enter Tryz.func18, Tryz.ntmps18
  go_wp2_with (first
    | (go_at_call 29; refine (stillInts_any p ks _ (book_growAt h (by repeat (with_reducible first | exact Chg.refl _ _ | refine chg_m ?_ _ | refine chg_g ?_ _ | refine chg_alloc ?_ _ | refine chg_drew ?_ | refine chg_drewN ?_ _ | refine chg_set ?_ _ _ _)))).mono ?_; rintro e w' ⟨rfl, s0, rfl⟩)
    | (go_at_call 30; refine (stillChars_any p ks _ (book_growAt h (by repeat (with_reducible first | exact Chg.refl _ _ | refine chg_m ?_ _ | refine chg_g ?_ _ | refine chg_alloc ?_ _ | refine chg_drew ?_ | refine chg_drewN ?_ _ | refine chg_set ?_ _ _ _)))).mono ?_; rintro e w' ⟨rfl, s1, rfl⟩)
    | (go_at_call 31; refine (stillTokens_any p ks _ (book_growAt h (by repeat (with_reducible first | exact Chg.refl _ _ | refine chg_m ?_ _ | refine chg_g ?_ _ | refine chg_alloc ?_ _ | refine chg_drew ?_ | refine chg_drewN ?_ _ | refine chg_set ?_ _ _ _)))).mono ?_; rintro e w' ⟨rfl, s2, rfl⟩)
    | (go_at_call 32; refine (stillNotices_any p ks _ (book_growAt h (by repeat (with_reducible first | exact Chg.refl _ _ | refine chg_m ?_ _ | refine chg_g ?_ _ | refine chg_alloc ?_ _ | refine chg_drew ?_ | refine chg_drewN ?_ _ | refine chg_set ?_ _ _ _)))).mono ?_; rintro e w' ⟨rfl, s3, rfl⟩)
    | (go_at_call 33; refine (stillBytes_any p ks _ (book_growAt h (by repeat (with_reducible first | exact Chg.refl _ _ | refine chg_m ?_ _ | refine chg_g ?_ _ | refine chg_alloc ?_ _ | refine chg_drew ?_ | refine chg_drewN ?_ _ | refine chg_set ?_ _ _ _)))).mono ?_; rintro e w' ⟨rfl, s4, rfl⟩)
    | (go_at_call 34; refine (stillSets_any p ks _ (book_growAt h (by repeat (with_reducible first | exact Chg.refl _ _ | refine chg_m ?_ _ | refine chg_g ?_ _ | refine chg_alloc ?_ _ | refine chg_drew ?_ | refine chg_drewN ?_ _ | refine chg_set ?_ _ _ _)))).mono ?_; rintro e w' ⟨rfl, s5, rfl⟩)
    | (go_at_call 35; refine (stillEvents_any p ks _ (book_growAt h (by repeat (with_reducible first | exact Chg.refl _ _ | refine chg_m ?_ _ | refine chg_g ?_ _ | refine chg_alloc ?_ _ | refine chg_drew ?_ | refine chg_drewN ?_ _ | refine chg_set ?_ _ _ _)))).mono ?_; rintro e w' ⟨rfl, s6, rfl⟩)
    | (go_at_call 36; refine (stillErrs_any p ks _ (book_growAt h (by repeat (with_reducible first | exact Chg.refl _ _ | refine chg_m ?_ _ | refine chg_g ?_ _ | refine chg_alloc ?_ _ | refine chg_drew ?_ | refine chg_drewN ?_ _ | refine chg_set ?_ _ _ _)))).mono ?_; rintro e w' ⟨rfl, s7, rfl⟩)
    | (go_at_call 37; refine (stillOuts_any p ks _ (book_growAt h (by repeat (with_reducible first | exact Chg.refl _ _ | refine chg_m ?_ _ | refine chg_g ?_ _ | refine chg_alloc ?_ _ | refine chg_drew ?_ | refine chg_drewN ?_ _ | refine chg_set ?_ _ _ _)))).mono ?_; rintro e w' ⟨rfl, s8, rfl⟩)
    | (go_at_call 38; refine (stillGrams_any p ks _ (book_growAt h (by repeat (with_reducible first | exact Chg.refl _ _ | refine chg_m ?_ _ | refine chg_g ?_ _ | refine chg_alloc ?_ _ | refine chg_drew ?_ | refine chg_drewN ?_ _ | refine chg_set ?_ _ _ _)))).mono ?_; rintro e w' ⟨rfl, s9, rfl⟩)
    | (go_at_call 39; refine (stillSteps_any p ks _ (book_growAt h (by repeat (with_reducible first | exact Chg.refl _ _ | refine chg_m ?_ _ | refine chg_g ?_ _ | refine chg_alloc ?_ _ | refine chg_drew ?_ | refine chg_drewN ?_ _ | refine chg_set ?_ _ _ _)))).mono ?_; rintro e w' ⟨rfl, s10, rfl⟩)
    | (go_at_call 40; refine (stillRows_any p ks _ (book_growAt h (by repeat (with_reducible first | exact Chg.refl _ _ | refine chg_m ?_ _ | refine chg_g ?_ _ | refine chg_alloc ?_ _ | refine chg_drew ?_ | refine chg_drewN ?_ _ | refine chg_set ?_ _ _ _)))).mono ?_; rintro e w' ⟨rfl, s11, rfl⟩)
    | (go_at_call 41; refine (putInts_any p ks _ (book_toP (book_growAt h (by repeat (with_reducible first | exact Chg.refl _ _ | refine chg_m ?_ _ | refine chg_g ?_ _ | refine chg_alloc ?_ _ | refine chg_drew ?_ | refine chg_drewN ?_ _ | refine chg_set ?_ _ _ _))))).mono ?_; rintro e WP0 ⟨rfl, ⟨_, hX0⟩, rfl, hP0⟩; dsimp only at hP0)
    | (go_at_call 42; refine (putChars_any p ks _ hP0).mono ?_; rintro e WP1 ⟨rfl, ⟨_, hX1⟩, rfl, hP1⟩; dsimp only at hP1)
    | (go_at_call 43; refine (putTokens_any p ks _ hP1).mono ?_; rintro e WP2 ⟨rfl, ⟨_, hX2⟩, rfl, hP2⟩; dsimp only at hP2)
    | (go_at_call 44; refine (putNotices_any p ks _ hP2).mono ?_; rintro e WP3 ⟨rfl, ⟨_, hX3⟩, rfl, hP3⟩; dsimp only at hP3)
    | (go_at_call 45; refine (putBytes_any p ks _ hP3).mono ?_; rintro e WP4 ⟨rfl, ⟨_, hX4⟩, rfl, hP4⟩; dsimp only at hP4)
    | (go_at_call 46; refine (putSets_any p ks _ hP4).mono ?_; rintro e WP5 ⟨rfl, ⟨_, hX5⟩, rfl, hP5⟩; dsimp only at hP5)
    | (go_at_call 47; refine (putEvents_any p ks _ hP5).mono ?_; rintro e WP6 ⟨rfl, ⟨_, hX6⟩, rfl, hP6⟩; dsimp only at hP6)
    | (go_at_call 48; refine (putErrs_any p ks _ hP6).mono ?_; rintro e WP7 ⟨rfl, ⟨_, hX7⟩, rfl, hP7⟩; dsimp only at hP7)
    | (go_at_call 49; refine (putOuts_any p ks _ hP7).mono ?_; rintro e WP8 ⟨rfl, ⟨_, hX8⟩, rfl, hP8⟩; dsimp only at hP8)
    | (go_at_call 50; refine (putGrams_any p ks _ hP8).mono ?_; rintro e WP9 ⟨rfl, ⟨_, hX9⟩, rfl, hP9⟩; dsimp only at hP9)
    | (go_at_call 51; refine (putSteps_any p ks _ hP9).mono ?_; rintro e WP10 ⟨rfl, ⟨_, hX10⟩, rfl, hP10⟩; dsimp only at hP10)
    | (go_at_call 52; refine (putRows_any p ks _ hP10).mono ?_; rintro e WP11 ⟨rfl, ⟨_, hX11⟩, rfl, hP11⟩; dsimp only at hP11)
    | (go_at_call 53; refine (growInts_any p ks _ (book_own12 hP11)).mono ?_; rintro e WG0 ⟨A0, m0, c0, its0, rfl, hL0, hM0, hB0, ⟨_, hY0⟩, rfl, hG0⟩; dsimp only at hG0 hL0)
    | (go_at_call 54; refine (growChars_any p ks _ hG0).mono ?_; rintro e w' ⟨rfl, hww, hG1⟩; have hww := hww.symm; subst hww)
    | (go_at_call 55; refine (growTokens_any p ks _ hG1).mono ?_; rintro e w' ⟨rfl, hww, hG2⟩; have hww := hww.symm; subst hww)
    | (go_at_call 56; refine (growNotices_any p ks _ hG2).mono ?_; rintro e WG3 ⟨A3, m3, c3, its3, rfl, hL3, hM3, hB3, ⟨_, hY3⟩, rfl, hG3⟩; dsimp only at hG3 hL3)
    | (go_at_call 57; refine (growBytes_any p ks _ hG3).mono ?_; rintro e WG4 ⟨A4, m4, c4, its4, rfl, hL4, hM4, hB4, ⟨_, hY4⟩, rfl, hG4⟩; dsimp only at hG4 hL4)
    | (go_at_call 58; refine (growSets_any p ks _ hG4).mono ?_; rintro e w' ⟨rfl, hww, hG5⟩; have hww := hww.symm; subst hww)
    | (go_at_call 59; refine (growEvents_any p ks _ hG5).mono ?_; rintro e w' ⟨rfl, hww, hG6⟩; have hww := hww.symm; subst hww)
    | (go_at_call 60; refine (growErrs_any p ks _ hG6).mono ?_; rintro e w' ⟨rfl, hww, hG7⟩; have hww := hww.symm; subst hww)
    | (go_at_call 61; refine (growOuts_any p ks _ hG7).mono ?_; rintro e w' ⟨rfl, hww, hG8⟩; have hww := hww.symm; subst hww)
    | (go_at_call 62; refine (growGrams_any p ks _ hG8).mono ?_; rintro e WG9 ⟨A9, m9, c9, its9, rfl, hL9, hM9, hB9, ⟨_, hY9⟩, rfl, hG9⟩; dsimp only at hG9 hL9)
    | (go_at_call 63; refine (growSteps_any p ks _ hG9).mono ?_; rintro e w' ⟨rfl, hww, hG10⟩; have hww := hww.symm; subst hww)
    | (go_at_call 64; refine (growRows_any p ks _ hG10).mono ?_; rintro e w' ⟨rfl, hww, hG11⟩; have hww := hww.symm; subst hww))
  have hFlt : ∀ d x, FA ks d x → x < w.heap.size := fun d x hx => (book_toP h).blt hx trivial
  have hfar : ∀ d d' x, d ≠ d' → FA ks d x → ¬ FA ks d' x := fun d d' x hne hx hx' => (hx.far (h.apart x)).2.2 d' (fun e => hne e.symm) hx'
  have q0 : w.heap.size ≤ WP0.heap.size := Nat.le_trans (Chg.size (F := Noth) (by repeat (with_reducible first | exact Chg.refl _ _ | refine chg_m ?_ _ | refine chg_g ?_ _ | refine chg_alloc ?_ _ | refine chg_drew ?_ | refine chg_drewN ?_ _ | refine chg_set ?_ _ _ _))) hX0.size
  have q1 := hX1.size
  have q2 := hX2.size
  have q3 := hX3.size
  have q4 := hX4.size
  have q5 := hX5.size
  have q6 := hX6.size
  have q7 := hX7.size
  have q8 := hX8.size
  have q9 := hX9.size
  have q10 := hX10.size
  have q11 := hX11.size
  have qY0 := hY0.size
  have qY3 := hY3.size
  have qY4 := hY4.size
  have qY9 := hY9.size
  have hE0 := ((hL0.chg hY3 (fun x hx e => by rcases hB0 x hx with h1 | h1; (exact hfar 0 3 x (by decide) h1 e); (have h2 := hFlt 3 x e; omega))).chg hY4 (fun x hx e => by rcases hB0 x hx with h1 | h1; (exact hfar 0 4 x (by decide) h1 e); (have h2 := hFlt 4 x e; omega))).chg hY9 (fun x hx e => by rcases hB0 x hx with h1 | h1; (exact hfar 0 9 x (by decide) h1 e); (have h2 := hFlt 9 x e; omega))
  have hE3 := (hL3.chg hY4 (fun x hx e => by rcases hB3 x hx with h1 | h1; (exact hfar 3 4 x (by decide) h1 e); (have h2 := hFlt 4 x e; omega))).chg hY9 (fun x hx e => by rcases hB3 x hx with h1 | h1; (exact hfar 3 9 x (by decide) h1 e); (have h2 := hFlt 9 x e; omega))
  have hE4 := hL4.chg hY9 (fun x hx e => by rcases hB4 x hx with h1 | h1; (exact hfar 4 9 x (by decide) h1 e); (have h2 := hFlt 9 x e; omega))
  have hE9 := hL9
  have hcw : Chg F w WG9 := by
    have a := (show Chg F w _ from (by repeat (with_reducible first | exact Chg.refl _ _ | refine chg_m ?_ _ | refine chg_g ?_ _ | refine chg_alloc ?_ _ | refine chg_drew ?_ | refine chg_drewN ?_ _ | refine chg_set ?_ _ _ _))).trans hX0 fun x _ e => hAF 0 x e
    have a := a.trans hX1 fun x _ e => hAF 1 x e
    have a := a.trans hX2 fun x _ e => hAF 2 x e
    have a := a.trans hX3 fun x _ e => hAF 3 x e
    have a := a.trans hX4 fun x _ e => hAF 4 x e
    have a := a.trans hX5 fun x _ e => hAF 5 x e
    have a := a.trans hX6 fun x _ e => hAF 6 x e
    have a := a.trans hX7 fun x _ e => hAF 7 x e
    have a := a.trans hX8 fun x _ e => hAF 8 x e
    have a := a.trans hX9 fun x _ e => hAF 9 x e
    have a := a.trans hX10 fun x _ e => hAF 10 x e
    have a := a.trans hX11 fun x _ e => hAF 11 x e
    have a := a.trans hY0 fun x _ e => hAF 0 x e
    have a := a.trans hY3 fun x _ e => hAF 3 x e
    have a := a.trans hY4 fun x _ e => hAF 4 x e
    have a := a.trans hY9 fun x _ e => hAF 9 x e
    exact a
  obtain ⟨k0, hk0⟩ : ∃ k, ks[0]? = some k := ⟨_, List.getElem?_eq_getElem (by rw [h.len]; decide)⟩
  obtain ⟨_, hv0⟩ := hG11.vrow 0 _ k0 rfl hk0
  obtain ⟨kA0, kc0, ev0⟩ := own_shape hv0
  have z0 : WG9.cell? ⟨p, 0, none⟩ = some (.slice kA0 k0.its.length kc0) := by rw [cell_of_row _ p 0 _ _ _ hG11.heap]; exact (flat_get ks 0 k0 hk0).1.trans (by rw [ev0])
  obtain ⟨lb0, l40, lm0⟩ := book_lists hG11 (i := 0) (by decide) rfl hk0
  have hmg0 := fun W (hW : Chg Noth WG9 W) => markedInts_any A0 m0 c0 its0 W hM0.1 (hE0.chg hW fun _ _ e => e) hM0.2.1 hM0.2.2
  have hmb0 := fun W (hW : Chg Noth WG9 W) => markedInts_any kA0 k0.its.length kc0 _ W (List.length_mapIdx ..).symm (by rw [← ev0]; exact lb0.chg hW fun _ _ e => e) l40 lm0
  obtain ⟨n0, hn0⟩ : ∃ n, n = k0.its.length := ⟨_, rfl⟩
  rw [← hn0] at z0 hmb0
  obtain ⟨k1, hk1⟩ : ∃ k, ks[1]? = some k := ⟨_, List.getElem?_eq_getElem (by rw [h.len]; decide)⟩
  obtain ⟨_, hv1⟩ := hG11.vrow 1 _ k1 rfl hk1
  obtain ⟨kA1, kc1, ev1⟩ := own_shape hv1
  have z1 : WG9.cell? ⟨p, 2, none⟩ = some (.slice kA1 k1.its.length kc1) := by rw [cell_of_row _ p 2 _ _ _ hG11.heap]; exact (flat_get ks 1 k1 hk1).1.trans (by rw [ev1])
  rw [hG11.few 1 _ k1 rfl hk1 rfl, List.length_nil] at z1
  obtain ⟨k2, hk2⟩ : ∃ k, ks[2]? = some k := ⟨_, List.getElem?_eq_getElem (by rw [h.len]; decide)⟩
  obtain ⟨_, hv2⟩ := hG11.vrow 2 _ k2 rfl hk2
  obtain ⟨kA2, kc2, ev2⟩ := own_shape hv2
  have z2 : WG9.cell? ⟨p, 4, none⟩ = some (.slice kA2 k2.its.length kc2) := by rw [cell_of_row _ p 4 _ _ _ hG11.heap]; exact (flat_get ks 2 k2 hk2).1.trans (by rw [ev2])
  rw [hG11.few 2 _ k2 rfl hk2 rfl, List.length_nil] at z2
  obtain ⟨k3, hk3⟩ : ∃ k, ks[3]? = some k := ⟨_, List.getElem?_eq_getElem (by rw [h.len]; decide)⟩
  obtain ⟨_, hv3⟩ := hG11.vrow 3 _ k3 rfl hk3
  obtain ⟨kA3, kc3, ev3⟩ := own_shape hv3
  have z3 : WG9.cell? ⟨p, 6, none⟩ = some (.slice kA3 k3.its.length kc3) := by rw [cell_of_row _ p 6 _ _ _ hG11.heap]; exact (flat_get ks 3 k3 hk3).1.trans (by rw [ev3])
  obtain ⟨lb3, l43, lm3⟩ := book_lists hG11 (i := 3) (by decide) rfl hk3
  have hmg3 := fun W (hW : Chg Noth WG9 W) => markedNotices_any A3 m3 c3 its3 W hM3.1 (hE3.chg hW fun _ _ e => e) hM3.2.1 hM3.2.2
  have hmb3 := fun W (hW : Chg Noth WG9 W) => markedNotices_any kA3 k3.its.length kc3 _ W (List.length_mapIdx ..).symm (by rw [← ev3]; exact lb3.chg hW fun _ _ e => e) l43 lm3
  obtain ⟨n3, hn3⟩ : ∃ n, n = k3.its.length := ⟨_, rfl⟩
  rw [← hn3] at z3 hmb3
  obtain ⟨k4, hk4⟩ : ∃ k, ks[4]? = some k := ⟨_, List.getElem?_eq_getElem (by rw [h.len]; decide)⟩
  obtain ⟨_, hv4⟩ := hG11.vrow 4 _ k4 rfl hk4
  obtain ⟨kA4, kc4, ev4⟩ := own_shape hv4
  have z4 : WG9.cell? ⟨p, 8, none⟩ = some (.slice kA4 k4.its.length kc4) := by rw [cell_of_row _ p 8 _ _ _ hG11.heap]; exact (flat_get ks 4 k4 hk4).1.trans (by rw [ev4])
  obtain ⟨lb4, l44, lm4⟩ := book_lists hG11 (i := 4) (by decide) rfl hk4
  have hmg4 := fun W (hW : Chg Noth WG9 W) => markedBytes_any A4 m4 c4 its4 W hM4.1 (hE4.chg hW fun _ _ e => e) hM4.2.1 hM4.2.2
  have hmb4 := fun W (hW : Chg Noth WG9 W) => markedBytes_any kA4 k4.its.length kc4 _ W (List.length_mapIdx ..).symm (by rw [← ev4]; exact lb4.chg hW fun _ _ e => e) l44 lm4
  obtain ⟨n4, hn4⟩ : ∃ n, n = k4.its.length := ⟨_, rfl⟩
  rw [← hn4] at z4 hmb4
  obtain ⟨k5, hk5⟩ : ∃ k, ks[5]? = some k := ⟨_, List.getElem?_eq_getElem (by rw [h.len]; decide)⟩
  obtain ⟨_, hv5⟩ := hG11.vrow 5 _ k5 rfl hk5
  obtain ⟨kA5, kc5, ev5⟩ := own_shape hv5
  have z5 : WG9.cell? ⟨p, 10, none⟩ = some (.slice kA5 k5.its.length kc5) := by rw [cell_of_row _ p 10 _ _ _ hG11.heap]; exact (flat_get ks 5 k5 hk5).1.trans (by rw [ev5])
  rw [hG11.few 5 _ k5 rfl hk5 rfl, List.length_nil] at z5
  obtain ⟨k6, hk6⟩ : ∃ k, ks[6]? = some k := ⟨_, List.getElem?_eq_getElem (by rw [h.len]; decide)⟩
  obtain ⟨_, hv6⟩ := hG11.vrow 6 _ k6 rfl hk6
  obtain ⟨kA6, kc6, ev6⟩ := own_shape hv6
  have z6 : WG9.cell? ⟨p, 12, none⟩ = some (.slice kA6 k6.its.length kc6) := by rw [cell_of_row _ p 12 _ _ _ hG11.heap]; exact (flat_get ks 6 k6 hk6).1.trans (by rw [ev6])
  rw [hG11.few 6 _ k6 rfl hk6 rfl, List.length_nil] at z6
  obtain ⟨k7, hk7⟩ : ∃ k, ks[7]? = some k := ⟨_, List.getElem?_eq_getElem (by rw [h.len]; decide)⟩
  obtain ⟨_, hv7⟩ := hG11.vrow 7 _ k7 rfl hk7
  obtain ⟨kA7, kc7, ev7⟩ := own_shape hv7
  have z7 : WG9.cell? ⟨p, 14, none⟩ = some (.slice kA7 k7.its.length kc7) := by rw [cell_of_row _ p 14 _ _ _ hG11.heap]; exact (flat_get ks 7 k7 hk7).1.trans (by rw [ev7])
  rw [hG11.few 7 _ k7 rfl hk7 rfl, List.length_nil] at z7
  obtain ⟨k8, hk8⟩ : ∃ k, ks[8]? = some k := ⟨_, List.getElem?_eq_getElem (by rw [h.len]; decide)⟩
  obtain ⟨_, hv8⟩ := hG11.vrow 8 _ k8 rfl hk8
  obtain ⟨kA8, kc8, ev8⟩ := own_shape hv8
  have z8 : WG9.cell? ⟨p, 16, none⟩ = some (.slice kA8 k8.its.length kc8) := by rw [cell_of_row _ p 16 _ _ _ hG11.heap]; exact (flat_get ks 8 k8 hk8).1.trans (by rw [ev8])
  rw [hG11.few 8 _ k8 rfl hk8 rfl, List.length_nil] at z8
  obtain ⟨k9, hk9⟩ : ∃ k, ks[9]? = some k := ⟨_, List.getElem?_eq_getElem (by rw [h.len]; decide)⟩
  obtain ⟨_, hv9⟩ := hG11.vrow 9 _ k9 rfl hk9
  obtain ⟨kA9, kc9, ev9⟩ := own_shape hv9
  have z9 : WG9.cell? ⟨p, 18, none⟩ = some (.slice kA9 k9.its.length kc9) := by rw [cell_of_row _ p 18 _ _ _ hG11.heap]; exact (flat_get ks 9 k9 hk9).1.trans (by rw [ev9])
  obtain ⟨lb9, l49, lm9⟩ := book_lists hG11 (i := 9) (by decide) rfl hk9
  have hmg9 := fun W (hW : Chg Noth WG9 W) => markedGrams_any A9 m9 c9 its9 W hM9.1 (hE9.chg hW fun _ _ e => e) hM9.2.1 hM9.2.2
  have hmb9 := fun W (hW : Chg Noth WG9 W) => markedGrams_any kA9 k9.its.length kc9 _ W (List.length_mapIdx ..).symm (by rw [← ev9]; exact lb9.chg hW fun _ _ e => e) l49 lm9
  obtain ⟨n9, hn9⟩ : ∃ n, n = k9.its.length := ⟨_, rfl⟩
  rw [← hn9] at z9 hmb9
  obtain ⟨k10, hk10⟩ : ∃ k, ks[10]? = some k := ⟨_, List.getElem?_eq_getElem (by rw [h.len]; decide)⟩
  obtain ⟨_, hv10⟩ := hG11.vrow 10 _ k10 rfl hk10
  obtain ⟨kA10, kc10, ev10⟩ := own_shape hv10
  have z10 : WG9.cell? ⟨p, 20, none⟩ = some (.slice kA10 k10.its.length kc10) := by rw [cell_of_row _ p 20 _ _ _ hG11.heap]; exact (flat_get ks 10 k10 hk10).1.trans (by rw [ev10])
  rw [hG11.few 10 _ k10 rfl hk10 rfl, List.length_nil] at z10
  obtain ⟨k11, hk11⟩ : ∃ k, ks[11]? = some k := ⟨_, List.getElem?_eq_getElem (by rw [h.len]; decide)⟩
  obtain ⟨_, hv11⟩ := hG11.vrow 11 _ k11 rfl hk11
  obtain ⟨kA11, kc11, ev11⟩ := own_shape hv11
  have z11 : WG9.cell? ⟨p, 22, none⟩ = some (.slice kA11 k11.its.length kc11) := by rw [cell_of_row _ p 22 _ _ _ hG11.heap]; exact (flat_get ks 11 k11 hk11).1.trans (by rw [ev11])
  rw [hG11.few 11 _ k11 rfl hk11 rfl, List.length_nil] at z11
  have jp : Old p WG9 := ⟨Nat.lt_of_lt_of_le hpl hcw.size⟩
  have HCW := Lib.hid hcw
  clear hv0 ev0 hk0 hv1 ev1 hk1 hv2 ev2 hk2 hv3 ev3 hk3 hv4 ev4 hk4 hv5 ev5 hk5 hv6 ev6 hk6 hv7 ev7 hk7 hv8 ev8 hk8 hv9 ev9 hk9 hv10 ev10 hk10 hv11 ev11 hk11 hP0 hX0 hP1 hX1 hP2 hX2 hP3 hX3 hP4 hX4 hP5 hX5 hP6 hX6 hP7 hX7 hP8 hX8 hP9 hX9 hP10 hX10 hP11 hX11 hG0 hG1 hG2 hG3 hG4 hG5 hG6 hG7 hG8 hG9 hG10 hG11 hE0 hL0 hM0 hB0 hY0 lb0 l40 lm0 hn0 hE3 hL3 hM3 hB3 hY3 lb3 l43 lm3 hn3 hE4 hL4 hM4 hB4 hY4 lb4 l44 lm4 hn4 hE9 hL9 hM9 hB9 hY9 lb9 l49 lm9 hn9 hcw
  refine (hmg0 _ (Chg.refl _ _)).mono ?_
  rintro e w' ⟨rfl, t, rfl⟩
  go_wp2_with (first
    | (go_at_call 65; (first | (with_reducible refine (hmg0 _ (by repeat (with_reducible first | exact Chg.refl _ _ | refine chg_m ?_ _ | refine chg_g ?_ _ | refine chg_alloc ?_ _ | refine chg_drew ?_ | refine chg_drewN ?_ _ | refine chg_set ?_ _ _ _))).mono ?_) | (with_reducible refine (hmb0 _ (by repeat (with_reducible first | exact Chg.refl _ _ | refine chg_m ?_ _ | refine chg_g ?_ _ | refine chg_alloc ?_ _ | refine chg_drew ?_ | refine chg_drewN ?_ _ | refine chg_set ?_ _ _ _))).mono ?_)); rintro e w' ⟨rfl, t, rfl⟩)
    | (go_at_call 66; refine (markedChars_any _ _ _).mono ?_; rintro e w' ⟨rfl, t, rfl⟩)
    | (go_at_call 67; refine (markedTokens_any _ _ _).mono ?_; rintro e w' ⟨rfl, t, rfl⟩)
    | (go_at_call 68; (first | (with_reducible refine (hmg3 _ (by repeat (with_reducible first | exact Chg.refl _ _ | refine chg_m ?_ _ | refine chg_g ?_ _ | refine chg_alloc ?_ _ | refine chg_drew ?_ | refine chg_drewN ?_ _ | refine chg_set ?_ _ _ _))).mono ?_) | (with_reducible refine (hmb3 _ (by repeat (with_reducible first | exact Chg.refl _ _ | refine chg_m ?_ _ | refine chg_g ?_ _ | refine chg_alloc ?_ _ | refine chg_drew ?_ | refine chg_drewN ?_ _ | refine chg_set ?_ _ _ _))).mono ?_)); rintro e w' ⟨rfl, t, rfl⟩)
    | (go_at_call 69; (first | (with_reducible refine (hmg4 _ (by repeat (with_reducible first | exact Chg.refl _ _ | refine chg_m ?_ _ | refine chg_g ?_ _ | refine chg_alloc ?_ _ | refine chg_drew ?_ | refine chg_drewN ?_ _ | refine chg_set ?_ _ _ _))).mono ?_) | (with_reducible refine (hmb4 _ (by repeat (with_reducible first | exact Chg.refl _ _ | refine chg_m ?_ _ | refine chg_g ?_ _ | refine chg_alloc ?_ _ | refine chg_drew ?_ | refine chg_drewN ?_ _ | refine chg_set ?_ _ _ _))).mono ?_)); rintro e w' ⟨rfl, t, rfl⟩)
    | (go_at_call 70; refine (markedSets_any _ _ _).mono ?_; rintro e w' ⟨rfl, t, rfl⟩)
    | (go_at_call 71; refine (markedEvents_any _ _ _).mono ?_; rintro e w' ⟨rfl, t, rfl⟩)
    | (go_at_call 72; refine (markedErrs_any _ _ _).mono ?_; rintro e w' ⟨rfl, t, rfl⟩)
    | (go_at_call 73; refine (markedOuts_any _ _ _).mono ?_; rintro e w' ⟨rfl, t, rfl⟩)
    | (go_at_call 74; (first | (with_reducible refine (hmg9 _ (by repeat (with_reducible first | exact Chg.refl _ _ | refine chg_m ?_ _ | refine chg_g ?_ _ | refine chg_alloc ?_ _ | refine chg_drew ?_ | refine chg_drewN ?_ _ | refine chg_set ?_ _ _ _))).mono ?_) | (with_reducible refine (hmb9 _ (by repeat (with_reducible first | exact Chg.refl _ _ | refine chg_m ?_ _ | refine chg_g ?_ _ | refine chg_alloc ?_ _ | refine chg_drew ?_ | refine chg_drewN ?_ _ | refine chg_set ?_ _ _ _))).mono ?_)); rintro e w' ⟨rfl, t, rfl⟩)
    | (go_at_call 75; refine (markedSteps_any _ _ _).mono ?_; rintro e w' ⟨rfl, t, rfl⟩)
    | (go_at_call 76; refine (markedRows_any _ _ _).mono ?_; rintro e w' ⟨rfl, t, rfl⟩))
  exact bodyPost_ret (v := .bool true) (by simp [results, Tryz.results18, go_sem]) rfl ⟨rfl, HCW.out.trans (show Chg Noth WG9 _ from (by repeat (with_reducible first | exact Chg.refl _ _ | refine chg_m ?_ _ | refine chg_g ?_ _ | refine chg_alloc ?_ _ | refine chg_drew ?_ | refine chg_drewN ?_ _ | refine chg_set ?_ _ _ _))) fun _ _ e => e.elim⟩
end Go.Proofs.YteemkceceaabkaaGreat
