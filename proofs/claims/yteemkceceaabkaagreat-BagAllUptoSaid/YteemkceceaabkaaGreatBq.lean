/- play, each step looked at; the book's lists apart. -/
import Derived.Test.YteemkceceaabkaaGreatBp
import Derived.Test.YteemkceceaabkaaGreatBz
import Derived.LoopTactic
import Derived.Deep.RegionHeldLaw
namespace Go.Proofs.YteemkceceaabkaaGreat
open Go.RowKit Go.Ear
set_option maxHeartbeats 1000000
set_option maxRecDepth 100000

theorem duo_apart {w W : World} {lb p q : Nat} (h : Duo w lb p q W) : Calls Tryz.prog 18 #[.pointer (some ⟨p, 0, none⟩)] W fun e W' => e = .returned (.bool true) ∧ Chg Noth w W' := by
  obtain ⟨cs, pa, pb, Ba, Bb, FPa, FRa, FPb, FRb, C, F, hc, h1, h2, h3, h4, h5, h6, h7⟩ := h
  refine (apart_any p C F W h1.book).mono ?_
  rintro e W' ⟨rfl, hm⟩
  exact ⟨rfl, hc.trans hm fun x hx e => by have := h4 x (.inr (.inr (.inr (.inr e)))); omega⟩

theorem play_all (r0 r1 : Int) (A : Option Addr) (n cap : Nat) (ops : List OpS) (hn : n = ops.length) (w : World) (hS : Scr w A ops) :
    Calls Tryz.prog 6 #[.agg #[i64 r0, i64 r1], .slice A n cap, .bool true] w (Gr (.bool true) w) := by
  have hal := fun W => alive_any W
  have HN := Lib.hid hn
  clear hn
  by_cases hbig : 150 < n
  · go_enter Tryz.func6, Tryz.ntmps6
    go_wp2_with (go_at_call 19; refine (hal _).mono ?_; rintro e w' ⟨rfl, g, rfl⟩)
    exact bodyPost_ret (v := .bool true) (by simp [results, Tryz.results6, go_sem]) rfl (gr_mk rfl (by repeat (with_reducible first | exact Chg.refl _ _ | refine chg_m ?_ _ | refine chg_g ?_ _ | refine chg_alloc ?_ _ | refine chg_drew ?_ | refine chg_drewN ?_ _ | refine chg_set ?_ _ _ _)))
  · go_enter Tryz.func6, Tryz.ntmps6
    go_wp2_with (go_at_call 19; refine (hal _).mono ?_; rintro e w' ⟨rfl, g, rfl⟩)
    have hc1 := chg_g (chg_alloc (Chg.refl Noth w) (.cells #[i64 r0, i64 r1] 22)) g
    have hrb0 : g.w.heap[w.heap.size]? = some (.cells #[i64 r0, i64 r1] 22 (0, 0)) := by rw [g.h.block _ (by simp) (fun e => e)]; exact heap_alloc_new _ _
    have hgs : w.heap.size < g.w.heap.size := (Array.getElem?_eq_some_iff.1 hrb0).1
    obtain ⟨W0, hW0⟩ : ∃ W0, W0 = g.w := ⟨_, rfl⟩
    rw [← hW0] at hc1 hrb0 hgs ⊢
    clear hW0 g
    obtain ⟨p, hp⟩ : ∃ p, p = W0.heap.size := ⟨_, rfl⟩
    obtain ⟨lb, hlb⟩ : ∃ lb, lb = p + 1 := ⟨_, rfl⟩
    obtain ⟨rb, hrb⟩ : ∃ rb, rb = w.heap.size := ⟨_, rfl⟩
    obtain ⟨r, hr⟩ : ∃ r : Nat → Int, r = fun j => if j = 0 then r0 else r1 := ⟨_, rfl⟩
    rw [← hp, ← hlb, ← hrb]
    have hM0 : ∀ W1, W1 = (W0.alloc (.cells #[.slice none 0 0, .slice none 0 0, .slice none 0 0, .slice none 0 0, .slice none 0 0, .slice none 0 0, .slice none 0 0, .slice none 0 0, .slice none 0 0, .slice none 0 0, .slice none 0 0, .slice none 0 0, .slice none 0 0, .slice none 0 0, .slice none 0 0, .slice none 0 0, .slice none 0 0, .slice none 0 0, .slice none 0 0, .slice none 0 0, .slice none 0 0, .slice none 0 0, .slice none 0 0, .slice none 0 0] 53)).alloc (.cells #[.pointer none, .slice none 0 0, i64 0, i64 0, .pointer none, .pointer none, .slice none 0 0, i64 0, i64 0, .pointer none] 63) → Made w lb p rb r 0 W1 := by
      rintro W1 rfl
      refine ⟨chg_alloc (chg_alloc hc1 _) _, _, #[i64 r0, i64 r1], fun _ => 0, by rw [hlb, hp]; exact heap_alloc_hs _ _ _, rfl, ?_, rfl, fun j _ hj => ?_, new_book ?_, fun j hj => by omega, fun j hj => by omega, fun i j hi hj => by omega⟩
      · rw [Below.heap_alloc _ _ _ (by simp; omega), Below.heap_alloc _ _ _ (by omega), hrb]; exact hrb0
      · rcases (show j = 0 ∨ j = 1 by omega) with rfl | rfl <;> simp [hr]
      · rw [Below.heap_alloc _ _ _ (by simp; omega), hp]; exact heap_alloc_new _ _
    have HM := Lib.hid (hM0 _ rfl)
    have hle2 : (w.heap.size ≤ lb ∧ w.heap.size ≤ rb ∧ p ≠ lb ∧ p ≠ rb) ∧ w.heap.size ≤ p := by omega
    have HPE := Lib.hid (And.intro hle2 hr)
    clear hM0 hle2 hr hp hlb hrb hrb0 hgs
    go_loopw [9, 6] (fun i r6 wr => ∃ k : Nat, k ≤ 2 ∧ i = .int .i64 k ∧ r6 = .bool false ∧ Made w lb p rb r k wr) (fun i _ _ => 2 - (intOf i).toNat)
    case atStart => exact ⟨0, by omega, rfl, rfl, HM.out⟩
    case round =>
      obtain ⟨k, hk, rfl, rfl, hM⟩ := hrel
      by_cases hk2 : k < 2
      · have hMc := hM
        obtain ⟨hc, cs, rs, pbs, e1, e2, e3, e4, e5, e6, -⟩ := hM
        have hrk := e5 k (Nat.le_refl _) hk2
        have jr : Old rb wr := ⟨(Array.getElem?_eq_some_iff.1 e3).1⟩
        have jl : Old lb wr := ⟨(Array.getElem?_eq_some_iff.1 e1).1⟩
        have x0 : wr.cell? ⟨rb, k, none⟩ = some (i64 (r k)) := by rw [cell_of_row _ _ _ _ _ _ e3]; exact hrk
        have x1 : wr.frozen? ⟨rb, k, none⟩ = false := frozen_of_row _ _ _ _ _ e3
        have kx : HasCell wr rb k := ⟨by rw [x0]; rfl⟩
        have f0 : ∀ i, wr.frozen? ⟨lb, i, none⟩ = false := fun i => frozen_of_row _ _ _ _ _ e1
        have q0 : HasCell wr lb (k * 5) := ⟨by rw [cell_of_row _ _ _ _ _ _ e1]; simp [e2]; omega⟩
        have q1 : HasCell wr lb (k * 5 + 1) := ⟨by rw [cell_of_row _ _ _ _ _ _ e1]; simp [e2]; omega⟩
        have q2 : HasCell wr lb (k * 5 + 2) := ⟨by rw [cell_of_row _ _ _ _ _ _ e1]; simp [e2]; omega⟩
        have q3 : HasCell wr lb (k * 5 + 3) := ⟨by rw [cell_of_row _ _ _ _ _ _ e1]; simp [e2]; omega⟩
        have q4 : HasCell wr lb (k * 5 + 4) := ⟨by rw [cell_of_row _ _ _ _ _ _ e1]; simp [e2]; omega⟩
        obtain ⟨v0, y0⟩ : ∃ v, wr.cell? ⟨lb, k * 5, none⟩ = some v := ⟨_, by rw [cell_of_row _ _ _ _ _ _ e1]; exact Array.getElem?_eq_getElem (by omega)⟩
        obtain ⟨v1, y1⟩ : ∃ v, wr.cell? ⟨lb, k * 5 + 1, none⟩ = some v := ⟨_, by rw [cell_of_row _ _ _ _ _ _ e1]; exact Array.getElem?_eq_getElem (by omega)⟩
        obtain ⟨v2, y2⟩ : ∃ v, wr.cell? ⟨lb, k * 5 + 2, none⟩ = some v := ⟨_, by rw [cell_of_row _ _ _ _ _ _ e1]; exact Array.getElem?_eq_getElem (by omega)⟩
        obtain ⟨v3, y3⟩ : ∃ v, wr.cell? ⟨lb, k * 5 + 3, none⟩ = some v := ⟨_, by rw [cell_of_row _ _ _ _ _ _ e1]; exact Array.getElem?_eq_getElem (by omega)⟩
        obtain ⟨v4, y4⟩ : ∃ v, wr.cell? ⟨lb, k * 5 + 4, none⟩ = some v := ⟨_, by rw [cell_of_row _ _ _ _ _ _ e1]; exact Array.getElem?_eq_getElem (by omega)⟩
        have nlr : ¬ lb = rb := fun e => by rw [e, e3] at e1; cases e1
        have nrl : ¬ rb = lb := fun e => nlr e.symm
        have HMc := Lib.hid hMc
        have HE := Lib.hid (And.intro e1 e3)
        clear hMc e1 e3 e5 e6 hc
        obtain ⟨rk, hrk2⟩ : ∃ rk, Hid (r k = rk) := ⟨_, Lib.hid rfl⟩
        rw [hrk2.out] at hrk x0
        rcases (show (0 ≤ rk ∧ rk ≤ 65536) ∨ rk < 0 ∨ (0 ≤ rk ∧ 65536 < rk) by omega) with ⟨h0, h1⟩ | h0 | ⟨h0, h1⟩
        · have hnew := fun W => new_good rk W h0 h1
          go_wp2_with (go_at_call 20; refine (hnew _).mono ?_; rintro e w' ⟨rfl, ⟨g1, rfl⟩, hbag⟩)
          obtain ⟨⟨⟨z1, z2, z3, z4⟩, _⟩, _⟩ := HPE.out
          have ero : roomOf (r k) = rk := by rw [hrk2.out]; unfold roomOf; rw [if_neg (by omega)]
          have hM2 := made_end HMc.out hk2 z1 z2 ⟨z3, z4⟩ g1.h (by rw [ero]; exact hbag) (Nat.le_refl _) (Chg.refl (fun x => x = rb) _) (rs' := rs) ((g1.h.block rb jr.lt fun e => e).trans HE.out.2) e4 (fun rs2 e j _ => by rw [HE.out.2] at e; cases e; rfl)
          rw [ero] at hM2
          exact ⟨⟨k + 1, by omega, by go_num, rfl, hM2⟩, by simp [intOf]; omega⟩
        all_goals
          have hnew := fun W => new_bad rk W (by omega)
          go_wp2_with (go_at_call 20; refine (hnew _).mono ?_; rintro e w' ⟨rfl, g1, rfl⟩)
          obtain ⟨⟨⟨z1, z2, z3, z4⟩, _⟩, _⟩ := HPE.out
          have ero : roomOf (r k) = 0 := by rw [hrk2.out]; unfold roomOf; rw [if_pos (by omega)]
          have hrl : rb < g1.w.heap.size := Nat.lt_of_lt_of_le jr.lt g1.h.size
          have hll : lb < g1.w.heap.size := Nat.lt_of_lt_of_le jl.lt g1.h.size
          have hcA : Chg Noth wr (g1.w.alloc (.cells #[i64 0, i64 0, .slice none 0 0] 67)) := chg_alloc g1.h _
          have mm : May rb (fun x => x = rb) (g1.w.alloc (.cells #[i64 0, i64 0, .slice none 0 0] 67)) := ⟨.inl rfl⟩
          have hM2 := made_end HMc.out hk2 z1 z2 ⟨z3, z4⟩ hcA (by rw [ero]; exact zero_bag g1.w) g1.h.size (chg_set (Chg.refl (fun x => x = rb) _) rb k (i64 0)) (rs' := rs.setIfInBounds k (i64 0))
            (heap_setCell_same _ rb k _ _ (i64 0) ((hcA.block rb jr.lt fun e => e).trans HE.out.2)) (by simpa using e4) (fun rs2 e j hj => by rw [HE.out.2] at e; cases e; rw [Array.getElem?_setIfInBounds_ne (by omega)])
          rw [ero] at hM2
          rw [World.setCell_alloc_past _ _ _ _ hrl, World.setCell_alloc_past _ _ _ _ (by simpa [World.setCell] using hll), World.setCell_alloc_past _ _ _ _ (by simpa [World.setCell] using hll), World.setCell_alloc_past _ _ _ _ (by simpa [World.setCell] using hll), World.setCell_alloc_past _ _ _ _ (by simpa [World.setCell] using hll), World.setCell_alloc_past _ _ _ _ (by simpa [World.setCell] using hll)] at hM2
          exact ⟨⟨k + 1, by omega, by go_num, rfl, hM2⟩, by simp [intOf]; omega⟩
      · obtain rfl : k = 2 := by omega
        have hD := duo_init hM HPE.out.1.1.1 HPE.out.1.2
        have HD := Lib.hid hD
        clear hD hM HM HPE
        go_wp2
        go_loopw [12, 6] (fun i r6 wr => ∃ q : Nat, q ≤ n ∧ i = .int .i64 q ∧ r6 = .bool false ∧ Duo w lb p q wr) (fun i _ _ => n - (intOf i).toNat)
        case atStart => exact ⟨0, Nat.zero_le _, rfl, rfl, HD.out⟩
        case round =>
          clear HD
          obtain ⟨q, hq, rfl, rfl, hD⟩ := hrel
          by_cases hqn : q < n
          · obtain ⟨o, ho⟩ : ∃ o, ops[q]? = some o := ⟨_, List.getElem?_eq_getElem (by have := HN.out; omega)⟩
            obtain ⟨b, so, D, dc, rfl, hbl, c0, c1, c2, c3, c4, c5, hSL⟩ := hS.cells q o ho
            obtain ⟨dn, hdn⟩ : ∃ dn, dn = o.data.length := ⟨_, rfl⟩
            rw [← hdn] at c5 hSL
            have hc := hD.chg
            have jb : Old b wr := ⟨Nat.lt_of_lt_of_le hbl hc.size⟩
            have d0 := (hc.cell (p := ⟨b, so + q * 6, none⟩) hbl fun e => e).trans c0
            have d1 := (hc.cell (p := ⟨b, so + q * 6 + 1, none⟩) hbl fun e => e).trans c1
            have d2 := (hc.cell (p := ⟨b, so + q * 6 + 2, none⟩) hbl fun e => e).trans c2
            have d3 := (hc.cell (p := ⟨b, so + q * 6 + 3, none⟩) hbl fun e => e).trans c3
            have d4 := (hc.cell (p := ⟨b, so + q * 6 + 4, none⟩) hbl fun e => e).trans c4
            have d5 := (hc.cell (p := ⟨b, so + q * 6 + 5, none⟩) hbl fun e => e).trans c5
            have HCS := Lib.hid (And.intro c0 (And.intro c1 (And.intro c2 (And.intro c3 (And.intro c4 c5)))))
            have hrg := hS.range o (List.mem_of_getElem? ho)
            have HDN := Lib.hid hdn
            have HO := Lib.hid ho
            clear hdn ho c0 c1 c2 c3 c4 c5
            by_cases hbg : 2000 < dn
            · go_wp2
              exact bodyPost_ret (v := .bool true) (by simp [results, Tryz.results6, go_sem]) rfl (gr_mk rfl hc)
            · have hs0 := fun W (hW : Chg Noth wr W) => duo_step0 (hD.grow hW) o D dn dc HDN.out hSL (by omega) (by omega) hrg
              have hs5 := fun W (hW : Chg Noth wr W) => duo_step5 (hD.grow hW) o D dn dc HDN.out hSL (by omega) (by omega) hrg
              have HDD := Lib.hid hD
              clear hD
              have hl0 := fun W (hW : Duo w lb p (q + 1) W) => duo_look hW 0 (.inl rfl)
              have hl5 := fun W (hW : Duo w lb p (q + 1) W) => duo_look hW 5 (.inr rfl)
              have hS6 : ∀ W', Chg Noth w W' → (fun W' => W'.cell? ⟨b, so + q * 6, none⟩ = some (i64 o.kind) ∧ W'.cell? ⟨b, so + q * 6 + 1, none⟩ = some (i64 o.who) ∧ W'.cell? ⟨b, so + q * 6 + 2, none⟩ = some (i64 o.i) ∧ W'.cell? ⟨b, so + q * 6 + 3, none⟩ = some (i64 o.j) ∧ W'.cell? ⟨b, so + q * 6 + 4, none⟩ = some (i64 o.k) ∧ W'.cell? ⟨b, so + q * 6 + 5, none⟩ = some (.slice D dn dc)) W' := fun W' hW => ⟨(hW.cell (p := ⟨b, so + q * 6, none⟩) hbl fun e => e).trans HCS.out.1, (hW.cell (p := ⟨b, so + q * 6 + 1, none⟩) hbl fun e => e).trans HCS.out.2.1, (hW.cell (p := ⟨b, so + q * 6 + 2, none⟩) hbl fun e => e).trans HCS.out.2.2.1, (hW.cell (p := ⟨b, so + q * 6 + 3, none⟩) hbl fun e => e).trans HCS.out.2.2.2.1, (hW.cell (p := ⟨b, so + q * 6 + 4, none⟩) hbl fun e => e).trans HCS.out.2.2.2.2.1, (hW.cell (p := ⟨b, so + q * 6 + 5, none⟩) hbl fun e => e).trans HCS.out.2.2.2.2.2⟩
              rcases who_and o.who with hwd | hwd
              all_goals
                go_wp2
                go_region_held_law (fun W' => W'.cell? ⟨b, so + q * 6, none⟩ = some (i64 o.kind) ∧ W'.cell? ⟨b, so + q * 6 + 1, none⟩ = some (i64 o.who) ∧ W'.cell? ⟨b, so + q * 6 + 2, none⟩ = some (i64 o.i) ∧ W'.cell? ⟨b, so + q * 6 + 3, none⟩ = some (i64 o.j) ∧ W'.cell? ⟨b, so + q * 6 + 4, none⟩ = some (i64 o.k) ∧ W'.cell? ⟨b, so + q * 6 + 5, none⟩ = some (.slice D dn dc)) (exact hS6 _ (by first | exact hD4.out.chg | exact hD3.out.chg | exact hD2.out.chg | exact chg_drew hc))
                  (first
                    | (go_at_call 21; (first | (with_reducible refine (hs0 _ (by repeat (with_reducible first | exact Chg.refl _ _ | refine chg_m ?_ _ | refine chg_g ?_ _ | refine chg_alloc ?_ _ | refine chg_drew ?_ | refine chg_drewN ?_ _ | refine chg_set ?_ _ _ _))).mono ?_) | (with_reducible refine (hs5 _ (by repeat (with_reducible first | exact Chg.refl _ _ | refine chg_m ?_ _ | refine chg_g ?_ _ | refine chg_alloc ?_ _ | refine chg_drew ?_ | refine chg_drewN ?_ _ | refine chg_set ?_ _ _ _))).mono ?_)); rintro e w2 ⟨rfl, hD2⟩; have hD2 := Lib.hid hD2)
                    | (go_at_call 22; (first | (with_reducible refine (hl0 _ hD2.out).mono ?_; rintro e w3 ⟨rfl, hD3⟩; have hD3 := Lib.hid hD3) | (with_reducible refine (hl5 _ hD3.out).mono ?_; rintro e w4 ⟨rfl, hD4⟩; have hD4 := Lib.hid hD4))))
                go_wp2
                refine ⟨?_, ?_⟩
                · repeat apply Exists.intro
                  refine ⟨?_, rfl⟩
                  exact ⟨q + 1, by omega, by go_num, rfl, hD4.out⟩
                · simp [intOf]; omega
          · obtain rfl : q = n := by omega
            have hl0 := fun W (hW : Duo w lb p q W) => duo_look hW 0 (.inl rfl)
            have hl5 := fun W (hW : Duo w lb p q W) => duo_look hW 5 (.inr rfl)
            have hap := fun W (hW : Duo w lb p q W) => duo_apart hW
            go_wp2_with (first
              | (go_at_call 22; (first | (with_reducible refine (hl0 _ (hD.grow (by repeat (with_reducible first | exact Chg.refl _ _ | refine chg_m ?_ _ | refine chg_g ?_ _ | refine chg_alloc ?_ _ | refine chg_drew ?_ | refine chg_drewN ?_ _ | refine chg_set ?_ _ _ _)))).mono ?_; rintro e w2 ⟨rfl, hD2⟩) | (with_reducible refine (hl5 _ (hD2.grow (by repeat (with_reducible first | exact Chg.refl _ _ | refine chg_m ?_ _ | refine chg_g ?_ _ | refine chg_alloc ?_ _ | refine chg_drew ?_ | refine chg_drewN ?_ _ | refine chg_set ?_ _ _ _)))).mono ?_; rintro e w3 ⟨rfl, hD3⟩)))
              | (go_at_call 18; refine (hap _ hD3).mono ?_; rintro e w4 ⟨rfl, hc4⟩))
            exact bodyPost_ret (v := .bool true) (by simp [results, Tryz.results6, go_sem]) rfl (gr_mk rfl hc4)
end Go.Proofs.YteemkceceaabkaaGreat
