/- Doubts: the reference's. -/
import Derived.Test.YteemkceceaabkaaGreatDb
import Derived.Deep.RegionLaw
namespace Go.Ear
/-- The tag of the greatest, -1 if there is none. -/
def tg (b : Option Int) : Int := match b with | none => -1 | some t => t
end Go.Ear
namespace Go.Proofs.YteemkceceaabkaaGreat
open Go.RowKit Go.Ear
set_option maxHeartbeats 4000000
set_option maxRecDepth 100000
set_option linter.unusedSimpArgs false
set_option linter.unusedVariables false
theorem doubtsR_good (n : Nat) (A : Option Addr) (c : Nat) (l : List Ev) (w : World) (h1 : 1 ≤ n) (h2 : n ≤ 100) (hE : EvsAt w A c l) (hl : l.length ≤ 10000) :
    Calls Tryz.prog 12 #[i64 n, .slice A l.length c] w (ListTo 81 3 (dl n l n).length (dcs (dl n l n)) 0 w) := by
  obtain ⟨i0, hi0, hz0, hz1, hz2⟩ := info_parts infoNotices
  have x1 : decide ((n : Int) < 1) = false := decide_eq_false (by omega)
  have x2 : decide ((100 : Int) < n) = false := decide_eq_false (by omega)
  have x3 : decide (100 < n) = false := decide_eq_false (by omega)
  have x4 : ¬ n = 0 := by omega
  have x5 : decide (n = 0) = false := decide_eq_false x4
  generalize hlen : l.length = len at *
  have HLEN := Lib.hid hlen
  clear hlen
  have hva := fun of tag W => validR_any n of tag W (by omega) (by omega)
  go_enter Tryz.func12, Tryz.ntmps12
  go_wp2
  go_loopw [6, 7] (fun l' j' wr => ∃ (j : Nat), j ≤ n ∧ j' = .int .i64 j ∧ Chg Noth w wr ∧ wr.ownsRow w.heap.size 81 3 l' (dl n l j).length (dcs (dl n l j))) (fun _ j' _ => n - (intOf j').toNat)
  case atStart => exact ⟨0, by omega, rfl, Chg.refl _ _, World.ownsRow_nil _ _ _ _⟩
  case round =>
    obtain ⟨W0, rfl⟩ : ∃ W0, W0 = wr := ⟨_, rfl⟩
    obtain ⟨j, hj, rfl, hc, hown⟩ := hrel
    obtain ⟨A7, c7, rfl⟩ := own_shape hown
    by_cases hlt : j < n
    · obtain ⟨d, hd⟩ : ∃ d, d = dl n l j := ⟨_, rfl⟩
      rw [← hd] at hown ⊢
      have HD := Lib.hid hd
      have HO := Lib.hid hown
      have HC := Lib.hid hc
      clear hd hown hc
      generalize hq : d.length = q at HO ⊢
      have HQ := Lib.hid hq
      clear hq
      go_wp2
      go_loopw [9] (fun k' wr => ∃ (k : Nat), k ≤ len ∧ k' = .int .i64 k ∧ Chg Noth w wr ∧ wr.ownsRow w.heap.size 81 3 (.slice A7 q c7) q (dcs d) ∧ wr.heap[W0.heap.size]? = some (.cells #[iv j, iv (tg (best n (l.take k) j)), iv 2] 81 (0, 0))) (fun k' _ => len - (intOf k').toNat)
      case atStart => exact ⟨0, by omega, rfl, (by repeat (with_reducible first | exact HC.out | exact Chg.refl _ _ | refine chg_m ?_ _ | refine chg_g ?_ _ | refine chg_alloc ?_ _ | refine chg_drew ?_ | refine chg_drewN ?_ _ | refine chg_set ?_ _ _ _)), own_chg (F := Noth) HO.out (by repeat (with_reducible first | exact Chg.refl _ _ | refine chg_m ?_ _ | refine chg_g ?_ _ | refine chg_alloc ?_ _ | refine chg_drew ?_ | refine chg_drewN ?_ _ | refine chg_set ?_ _ _ _)) fun _ _ e => e, heap_alloc_new _ _⟩
      case round =>
        obtain ⟨k, hk, rfl, hc2, hown2, hb2⟩ := hrel
        have jp : Old W0.heap.size wr := ⟨(Array.getElem?_eq_some_iff.1 hb2).1⟩
        have p0 : wr.cell? ⟨W0.heap.size, 0, none⟩ = some (iv j) := by rw [cell_of_row _ _ _ _ _ _ hb2]; rfl
        have p1 : wr.cell? ⟨W0.heap.size, 1, none⟩ = some (iv (tg (best n (l.take k) j))) := by rw [cell_of_row _ _ _ _ _ _ hb2]; rfl
        have p2 : wr.cell? ⟨W0.heap.size, 2, none⟩ = some (iv 2) := by rw [cell_of_row _ _ _ _ _ _ hb2]; rfl
        have f0 : ∀ i, wr.frozen? ⟨W0.heap.size, i, none⟩ = false := fun i => frozen_of_row _ _ _ _ _ hb2
        have k0 : HasCell wr W0.heap.size 0 := ⟨by rw [p0]; rfl⟩
        have k1 : HasCell wr W0.heap.size 1 := ⟨by rw [p1]; rfl⟩
        have k2 : HasCell wr W0.heap.size 2 := ⟨by rw [p2]; rfl⟩
        have HC2 := Lib.hid hc2
        have HO2 := Lib.hid hown2
        have HB2 := Lib.hid hb2
        by_cases hlt2 : k < len
        · obtain ⟨e, he⟩ : ∃ e, l[k]? = some e := ⟨_, List.getElem?_eq_getElem (by rw [HLEN.out]; exact hlt2)⟩
          obtain ⟨b, off, rfl, hb, hcell⟩ := (hE.grow hc2).at he
          have hbs := best_succ (n := n) (j := j) he
          have jb : Old b wr := ⟨hb⟩
          obtain ⟨kind, node, life, round, tag, of, dur, hea, uni⟩ := e
          have e0 := hcell 0 (iv kind) rfl
          have e1 := hcell 1 (iv node) rfl
          have e4 := hcell 4 (iv tag) rfl
          have e5 := hcell 5 (iv of) rfl
          simp only [Nat.add_zero] at e0
          generalize hbb : best n (l.take k) j = bb at *
          have HBB := Lib.hid hbb
          have HBS := Lib.hid hbs
          clear hc2 hown2 hb2 hcell he hbs hbb
          have htg : ∀ u, bb = some u → 0 ≤ u ∧ u ≤ 1048576 := fun u hu => best_ok n (l.take k) j u (HBB.out.trans hu)
          by_cases hgo : Cnt n ⟨kind, node, life, round, tag, of, dur, hea, uni⟩ ∧ of = j ∧ (bb.all fun u => decide (u < tag)) = true
          · obtain ⟨⟨hk4, hn0, hn1, hsus⟩, hof, hall⟩ := id hgo
            simp only at hk4 hn0 hn1 hsus
            subst hk4 hof
            have y0 : decide ((0 : Int) ≤ node) = true := decide_eq_true hn0
            have y1 : decide (node < (n : Int)) = true := decide_eq_true hn1
            have y2 : decide (Sus n j tag) = true := decide_eq_true hsus
            have hts := hsus.2.2
            have y3 : decide (tg bb < tag) = true := by
              refine decide_eq_true ?_
              cases bb with
              | none => simp only [tg]; have := hts.1; omega
              | some u => simpa [tg] using hall
            have hva' := hva j tag
            rw [y2] at hva'
            have HNEW : Hid (best n (l.take (k + 1)) j = some tag) := Lib.hid (HBS.out.trans (by unfold one; rw [if_pos hgo]))
            clear hgo hall hn0 hn1 hsus hts y2
            clear hva htg
            go_wp2
            go_region_law (fail)
            go_wp2_with (go_at_call 27; refine (hva' _).mono ?_; rintro e w' ⟨rfl, g, rfl⟩)
            all_goals (
              have hB2 : g.w.heap[W0.heap.size]? = some (.cells #[iv j, iv (tg bb), iv 2] 81 (0, 0)) := ((show Chg Noth wr g.w from (by repeat (with_reducible first | exact Chg.refl _ _ | refine chg_m ?_ _ | refine chg_g ?_ _ | refine chg_alloc ?_ _ | refine chg_drew ?_ | refine chg_drewN ?_ _ | refine chg_set ?_ _ _ _))).block _ (Array.getElem?_eq_some_iff.1 HB2.out).1 (fun e => e)).trans HB2.out
              have hS1 := heap_setCell_same _ _ 0 _ _ (iv j) hB2
              have hS2 := heap_setCell_same _ _ 1 _ _ (iv tag) hS1
              have hS3 := heap_setCell_same _ _ 2 _ _ (iv 2) hS2
              have iw : WLe w W0 := ⟨HC.out.size⟩
              have im : May W0.heap.size (fun x => x = W0.heap.size) wr := ⟨.inl rfl⟩
              refine ⟨⟨k + 1, by omega, by simp, (by repeat (with_reducible first | exact HC2.out | exact Chg.refl _ _ | refine chg_m ?_ _ | refine chg_g ?_ _ | refine chg_alloc ?_ _ | refine chg_drew ?_ | refine chg_drewN ?_ _ | refine chg_set ?_ _ _ _)), own_chg (F := fun x => x = W0.heap.size) HO2.out (by repeat (with_reducible first | exact Chg.refl _ _ | refine chg_m ?_ _ | refine chg_g ?_ _ | refine chg_alloc ?_ _ | refine chg_drew ?_ | refine chg_drewN ?_ _ | refine chg_set ?_ _ _ _)) fun x hx e => by (have := (HO.out.lt x hx).2; omega), ?_⟩, by simp [intOf]; omega⟩
              rw [HNEW.out]
              exact hS3)
          · have HSAME : Hid (best n (l.take (k + 1)) j = bb) := Lib.hid (HBS.out.trans (by unfold one; rw [if_neg hgo]))
            rcases (show kind ≠ 4 ∨ (kind = 4 ∧ of ≠ j) ∨ (kind = 4 ∧ of = j ∧ node < 0) ∨ (kind = 4 ∧ of = j ∧ 0 ≤ node ∧ n ≤ node) ∨ (kind = 4 ∧ of = j ∧ 0 ≤ node ∧ node < n ∧ ¬ Sus n of tag) ∨ (kind = 4 ∧ of = j ∧ 0 ≤ node ∧ node < n ∧ Sus n of tag ∧ ¬ tg bb < tag) by
              by_cases h4 : kind = 4
              · by_cases ho : of = (j : Int)
                · by_cases h0 : 0 ≤ node
                  · by_cases h1' : node < (n : Int)
                    · by_cases hs : Sus n of tag
                      · refine .inr (.inr (.inr (.inr (.inr ⟨h4, ho, h0, h1', hs, fun ht => ?_⟩))))
                        refine hgo ⟨⟨h4, h0, h1', hs⟩, ho, ?_⟩
                        cases bb with
                        | none => rfl
                        | some u => simpa [tg] using ht
                      · exact .inr (.inr (.inr (.inr (.inl ⟨h4, ho, h0, h1', hs⟩))))
                    · exact .inr (.inr (.inr (.inl ⟨h4, ho, h0, by omega⟩)))
                  · exact .inr (.inr (.inl ⟨h4, ho, by omega⟩))
                · exact .inr (.inl ⟨h4, ho⟩)
              · exact .inl h4) with h | ⟨rfl, h⟩ | ⟨rfl, rfl, h⟩ | ⟨rfl, rfl, h, h'⟩ | ⟨rfl, rfl, h, h', h''⟩ | ⟨rfl, rfl, h, h', h'', h3⟩
            · have y1 : ((kind : Int) == 4) = false := by simpa using h
              clear h
              clear hgo
              clear hva htg
              go_wp2
              go_region_law (fail)
              go_wp2_with fail
              all_goals (
                refine ⟨⟨k + 1, by omega, by simp, (by repeat (with_reducible first | exact HC2.out | exact Chg.refl _ _ | refine chg_m ?_ _ | refine chg_g ?_ _ | refine chg_alloc ?_ _ | refine chg_drew ?_ | refine chg_drewN ?_ _ | refine chg_set ?_ _ _ _)), own_chg (F := Noth) HO2.out (by repeat (with_reducible first | exact Chg.refl _ _ | refine chg_m ?_ _ | refine chg_g ?_ _ | refine chg_alloc ?_ _ | refine chg_drew ?_ | refine chg_drewN ?_ _ | refine chg_set ?_ _ _ _)) fun _ _ e => e, ?_⟩, by simp [intOf]; omega⟩
                rw [HSAME.out]
                exact ((show Chg Noth wr _ from (by repeat (with_reducible first | exact Chg.refl _ _ | refine chg_m ?_ _ | refine chg_g ?_ _ | refine chg_alloc ?_ _ | refine chg_drew ?_ | refine chg_drewN ?_ _ | refine chg_set ?_ _ _ _))).block _ (Array.getElem?_eq_some_iff.1 HB2.out).1 (fun e => e)).trans HB2.out)
            · have y1 : ((of : Int) == (j : Int)) = false := by simpa using h
              clear h
              clear hgo
              clear hva htg
              go_wp2
              go_region_law (fail)
              go_wp2_with fail
              all_goals (
                refine ⟨⟨k + 1, by omega, by simp, (by repeat (with_reducible first | exact HC2.out | exact Chg.refl _ _ | refine chg_m ?_ _ | refine chg_g ?_ _ | refine chg_alloc ?_ _ | refine chg_drew ?_ | refine chg_drewN ?_ _ | refine chg_set ?_ _ _ _)), own_chg (F := Noth) HO2.out (by repeat (with_reducible first | exact Chg.refl _ _ | refine chg_m ?_ _ | refine chg_g ?_ _ | refine chg_alloc ?_ _ | refine chg_drew ?_ | refine chg_drewN ?_ _ | refine chg_set ?_ _ _ _)) fun _ _ e => e, ?_⟩, by simp [intOf]; omega⟩
                rw [HSAME.out]
                exact ((show Chg Noth wr _ from (by repeat (with_reducible first | exact Chg.refl _ _ | refine chg_m ?_ _ | refine chg_g ?_ _ | refine chg_alloc ?_ _ | refine chg_drew ?_ | refine chg_drewN ?_ _ | refine chg_set ?_ _ _ _))).block _ (Array.getElem?_eq_some_iff.1 HB2.out).1 (fun e => e)).trans HB2.out)
            · have y1 : decide ((0 : Int) ≤ node) = false := decide_eq_false (by omega)
              clear h
              clear hgo
              clear hva htg
              go_wp2
              go_region_law (fail)
              go_wp2_with fail
              all_goals (
                refine ⟨⟨k + 1, by omega, by simp, (by repeat (with_reducible first | exact HC2.out | exact Chg.refl _ _ | refine chg_m ?_ _ | refine chg_g ?_ _ | refine chg_alloc ?_ _ | refine chg_drew ?_ | refine chg_drewN ?_ _ | refine chg_set ?_ _ _ _)), own_chg (F := Noth) HO2.out (by repeat (with_reducible first | exact Chg.refl _ _ | refine chg_m ?_ _ | refine chg_g ?_ _ | refine chg_alloc ?_ _ | refine chg_drew ?_ | refine chg_drewN ?_ _ | refine chg_set ?_ _ _ _)) fun _ _ e => e, ?_⟩, by simp [intOf]; omega⟩
                rw [HSAME.out]
                exact ((show Chg Noth wr _ from (by repeat (with_reducible first | exact Chg.refl _ _ | refine chg_m ?_ _ | refine chg_g ?_ _ | refine chg_alloc ?_ _ | refine chg_drew ?_ | refine chg_drewN ?_ _ | refine chg_set ?_ _ _ _))).block _ (Array.getElem?_eq_some_iff.1 HB2.out).1 (fun e => e)).trans HB2.out)
            · have y1 : decide ((0 : Int) ≤ node) = true := decide_eq_true h
              have y2 : decide (node < (n : Int)) = false := decide_eq_false (by omega)
              clear h h'
              clear hgo
              clear hva htg
              go_wp2
              go_region_law (fail)
              go_wp2_with fail
              all_goals (
                refine ⟨⟨k + 1, by omega, by simp, (by repeat (with_reducible first | exact HC2.out | exact Chg.refl _ _ | refine chg_m ?_ _ | refine chg_g ?_ _ | refine chg_alloc ?_ _ | refine chg_drew ?_ | refine chg_drewN ?_ _ | refine chg_set ?_ _ _ _)), own_chg (F := Noth) HO2.out (by repeat (with_reducible first | exact Chg.refl _ _ | refine chg_m ?_ _ | refine chg_g ?_ _ | refine chg_alloc ?_ _ | refine chg_drew ?_ | refine chg_drewN ?_ _ | refine chg_set ?_ _ _ _)) fun _ _ e => e, ?_⟩, by simp [intOf]; omega⟩
                rw [HSAME.out]
                exact ((show Chg Noth wr _ from (by repeat (with_reducible first | exact Chg.refl _ _ | refine chg_m ?_ _ | refine chg_g ?_ _ | refine chg_alloc ?_ _ | refine chg_drew ?_ | refine chg_drewN ?_ _ | refine chg_set ?_ _ _ _))).block _ (Array.getElem?_eq_some_iff.1 HB2.out).1 (fun e => e)).trans HB2.out)
            · have y1 : decide ((0 : Int) ≤ node) = true := decide_eq_true h
              have y2 : decide (node < (n : Int)) = true := decide_eq_true h'
              have hva' := hva j tag
              simp only [h'', decide_false] at hva'
              clear h h' h''
              clear hgo
              clear hva htg
              go_wp2
              go_region_law (fail)
              go_wp2_with (go_at_call 27; refine (hva' _).mono ?_; rintro e w' ⟨rfl, g, rfl⟩)
              all_goals (
                refine ⟨⟨k + 1, by omega, by simp, (by repeat (with_reducible first | exact HC2.out | exact Chg.refl _ _ | refine chg_m ?_ _ | refine chg_g ?_ _ | refine chg_alloc ?_ _ | refine chg_drew ?_ | refine chg_drewN ?_ _ | refine chg_set ?_ _ _ _)), own_chg (F := Noth) HO2.out (by repeat (with_reducible first | exact Chg.refl _ _ | refine chg_m ?_ _ | refine chg_g ?_ _ | refine chg_alloc ?_ _ | refine chg_drew ?_ | refine chg_drewN ?_ _ | refine chg_set ?_ _ _ _)) fun _ _ e => e, ?_⟩, by simp [intOf]; omega⟩
                rw [HSAME.out]
                exact ((show Chg Noth wr _ from (by repeat (with_reducible first | exact Chg.refl _ _ | refine chg_m ?_ _ | refine chg_g ?_ _ | refine chg_alloc ?_ _ | refine chg_drew ?_ | refine chg_drewN ?_ _ | refine chg_set ?_ _ _ _))).block _ (Array.getElem?_eq_some_iff.1 HB2.out).1 (fun e => e)).trans HB2.out)
            · have y1 : decide ((0 : Int) ≤ node) = true := decide_eq_true h
              have y2 : decide (node < (n : Int)) = true := decide_eq_true h'
              have y3 : decide (tg bb < tag) = false := decide_eq_false h3
              have hva' := hva j tag
              simp only [h'', decide_true] at hva'
              clear h h' h'' h3
              clear hgo
              clear hva htg
              go_wp2
              go_region_law (fail)
              go_wp2_with (go_at_call 27; refine (hva' _).mono ?_; rintro e w' ⟨rfl, g, rfl⟩)
              all_goals (
                refine ⟨⟨k + 1, by omega, by simp, (by repeat (with_reducible first | exact HC2.out | exact Chg.refl _ _ | refine chg_m ?_ _ | refine chg_g ?_ _ | refine chg_alloc ?_ _ | refine chg_drew ?_ | refine chg_drewN ?_ _ | refine chg_set ?_ _ _ _)), own_chg (F := Noth) HO2.out (by repeat (with_reducible first | exact Chg.refl _ _ | refine chg_m ?_ _ | refine chg_g ?_ _ | refine chg_alloc ?_ _ | refine chg_drew ?_ | refine chg_drewN ?_ _ | refine chg_set ?_ _ _ _)) fun _ _ e => e, ?_⟩, by simp [intOf]; omega⟩
                rw [HSAME.out]
                exact ((show Chg Noth wr _ from (by repeat (with_reducible first | exact Chg.refl _ _ | refine chg_m ?_ _ | refine chg_g ?_ _ | refine chg_alloc ?_ _ | refine chg_drew ?_ | refine chg_drewN ?_ _ | refine chg_set ?_ _ _ _))).block _ (Array.getElem?_eq_some_iff.1 HB2.out).1 (fun e => e)).trans HB2.out)

        · obtain rfl : k = len := by omega
          rw [List.take_of_length_le (by rw [HLEN.out]; exact Nat.le_refl _)] at p1
          generalize hbb : best n l j = bb at p1
          have HBB := Lib.hid hbb
          clear hc2 hown2 hb2 hbb
          have hql : q ≤ j := by rw [← HQ.out, HD.out]; exact dl_len _ _ _
          have hs0 := HC2.out.size
          have HS0 := Lib.hid hs0
          clear hs0
          cases bb with
          | none =>
            simp only [tg] at p1
            have hdn := dl_none HBB.out
            rw [← HD.out] at hdn
            have HDN := Lib.hid hdn
            clear hdn
            go_wp2
            refine ⟨⟨j + 1, by omega, by simp, (by repeat (with_reducible first | exact HC2.out | exact Chg.refl _ _ | refine chg_m ?_ _ | refine chg_g ?_ _ | refine chg_alloc ?_ _ | refine chg_drew ?_ | refine chg_drewN ?_ _ | refine chg_set ?_ _ _ _)), by rw [HDN.out, HQ.out]; exact own_chg (F := Noth) HO2.out (by repeat (with_reducible first | exact Chg.refl _ _ | refine chg_m ?_ _ | refine chg_g ?_ _ | refine chg_alloc ?_ _ | refine chg_drew ?_ | refine chg_drewN ?_ _ | refine chg_set ?_ _ _ _)) fun _ _ e => e⟩, by simp [intOf]; omega⟩
          | some t =>
            have ht : decide ((0 : Int) ≤ t) = true := decide_eq_true (best_ok _ _ _ _ HBB.out).1
            simp only [tg] at p1
            have hds := dl_some HBB.out
            rw [← HD.out] at hds
            have HDS := Lib.hid hds
            clear hds
            go_wp2_with (at_builtin; (refine wpList_append_own _ rfl _ _ 33 rfl w.heap.size 81 i0 _ 3 24 Tryz.underlying33 hi0 hz0 hz1 hz2 rfl (by decide) (.slice A7 q c7) q (dcs d) rfl (own_chg (F := Noth) HO2.out (by repeat (with_reducible first | exact Chg.refl _ _ | refine chg_m ?_ _ | refine chg_g ?_ _ | refine chg_alloc ?_ _ | refine chg_drew ?_ | refine chg_drewN ?_ _ | refine chg_set ?_ _ _ _)) fun _ _ e => e) ⟨_, 0, none⟩ 1 1 [.int .i64 (j : Int), .int .i64 t, .int .i64 2] rfl rfl (World.news_of_block (cs := #[.int .i64 (j : Int), .int .i64 t, .int .i64 2]) (by exact heap_alloc_hs _ _ _)) (by intro u hu; simp at hu; rcases hu with rfl | rfl | rfl <;> rfl) (by simp only [maxLen]; omega) (by have := HS0.out; omega) (by have := HS0.out; simp; omega) ?_); intro v1 w1 hown1 hg1 _; obtain ⟨A9, c9, rfl⟩ := own_shape hown1)
            have hc1 : Chg Noth w w1 := (show Chg Noth w _ from (by repeat (with_reducible first | exact HC2.out | exact Chg.refl _ _ | refine chg_m ?_ _ | refine chg_g ?_ _ | refine chg_alloc ?_ _ | refine chg_drew ?_ | refine chg_drewN ?_ _ | refine chg_set ?_ _ _ _))).trans (Chg.of_grown hg1) fun x hx e => by have := (HO2.out.lt x e).1; omega
            exact ⟨⟨j + 1, by omega, by simp, hc1, by rw [HDS.out, dcs_succ, List.length_append, HQ.out]; exact hown1⟩, by simp [intOf]; omega⟩
    · obtain rfl : j = n := by omega
      have HO := Lib.hid hown
      have HC := Lib.hid hc
      clear hown hc
      generalize (dl j l j).length = q at *
      go_wp2
      go_ret2
      exact ⟨_, _, rfl, HO.out, muts_ex HC.out⟩
theorem doubts_bad (n : Int) (v : Value) (w : World) (h : ¬ (1 ≤ n ∧ n ≤ 100)) : Calls Tryz.prog 11 #[i64 n, v] w (ListTo 81 3 0 [] 1 w) := by
  have hn := fun W => isNodes_any n W
  simp only [h, decide_false] at hn
  clear h
  go_enter Tryz.func11, Tryz.ntmps11
  go_wp2_with fail
  refine (hn _).mono ?_
  rintro e w' ⟨rfl, hw⟩
  have hw := hw.symm
  subst hw
  go_wp2
  go_ret2
  exact ⟨_, _, rfl, World.ownsRow_nil _ _ _ _, muts_ex (Chg.refl _ _)⟩
theorem doubtsR_bad (n : Int) (v : Value) (w : World) (h : ¬ (1 ≤ n ∧ n ≤ 100)) : Calls Tryz.prog 12 #[i64 n, v] w (ListTo 81 3 0 [] 1 w) := by
  rcases (show n < 1 ∨ (1 ≤ n ∧ 100 < n) by omega) with h1 | ⟨h0, h1⟩
  · have x1 : decide ((n : Int) < 1) = true := decide_eq_true h1
    clear h h1
    go_enter Tryz.func12, Tryz.ntmps12
    go_wp2
    go_ret2
    exact ⟨_, _, rfl, World.ownsRow_nil _ _ _ _, muts_ex (Chg.refl _ _)⟩
  · have x1 : decide ((n : Int) < 1) = false := decide_eq_false (by omega)
    have x2 : decide ((100 : Int) < n) = true := decide_eq_true h1
    clear h h0 h1
    go_enter Tryz.func12, Tryz.ntmps12
    go_wp2
    go_ret2
    exact ⟨_, _, rfl, World.ownsRow_nil _ _ _ _, muts_ex (Chg.refl _ _)⟩
/-- What Doubts answers: the number of notices, the cells, the error. -/
def doubtsOf (n : Int) (l : List Ev) : Nat × List Value × Int := if 1 ≤ n ∧ n ≤ 100 then ((dl n l n.toNat).length, dcs (dl n l n.toNat), 0) else (0, [], 1)
theorem doubts_any (n : Int) (A : Option Addr) (c : Nat) (l : List Ev) (w : World) (hE : EvsAt w A c l) (hl : l.length ≤ 10000) :
    Calls Tryz.prog 11 #[i64 n, .slice A l.length c] w (ListTo 81 3 (doubtsOf n l).1 (doubtsOf n l).2.1 (doubtsOf n l).2.2 w) := by
  by_cases h : 1 ≤ n ∧ n ≤ 100
  · obtain ⟨n, rfl⟩ := Int.eq_ofNat_of_zero_le (show 0 ≤ n by omega)
    rw [doubtsOf, if_pos h]
    exact doubts_good n A c l w (by omega) (by omega) hE hl
  · rw [doubtsOf, if_neg h]
    exact doubts_bad n _ w h
theorem doubtsR_any (n : Int) (A : Option Addr) (c : Nat) (l : List Ev) (w : World) (hE : EvsAt w A c l) (hl : l.length ≤ 10000) :
    Calls Tryz.prog 12 #[i64 n, .slice A l.length c] w (ListTo 81 3 (doubtsOf n l).1 (doubtsOf n l).2.1 (doubtsOf n l).2.2 w) := by
  by_cases h : 1 ≤ n ∧ n ≤ 100
  · obtain ⟨n, rfl⟩ := Int.eq_ofNat_of_zero_le (show 0 ≤ n by omega)
    rw [doubtsOf, if_pos h]
    exact doubtsR_good n A c l w (by omega) (by omega) hE hl
  · rw [doubtsOf, if_neg h]
    exact doubtsR_bad n _ w h
end Go.Proofs.YteemkceceaabkaaGreat
