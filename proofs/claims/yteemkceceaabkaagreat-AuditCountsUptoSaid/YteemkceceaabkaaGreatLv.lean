/- Lives: the program's, the reference's. -/
import Derived.Test.YteemkceceaabkaaGreatAg1
namespace Go.Ear
open Go.RowKit
/-- A life more at its node, if the event is a begin. -/
def tal (n : Int) (cs : List Int) (e : Ev) : List Int := if e.kind = 1 ∧ 0 ≤ e.node ∧ e.node < n then cs.set e.node.toNat (wrap64 (cs.getD e.node.toNat 0 + 1)) else cs
theorem tal_len (n : Int) (cs : List Int) (e : Ev) : (tal n cs e).length = cs.length := by
  unfold tal
  split <;> simp
/-- A list that a function made, and an error. -/
def ListTo (e : TypeId) (sz : Nat) (n : Nat) (xs : List Value) (er : Int) (w : World) : Ending → World → Prop := fun en w' =>
  ∃ A c, en = .returned (.tuple #[.slice A n c, iv er]) ∧ w'.ownsRow w.heap.size e sz (.slice A n c) n xs ∧ ∃ g : Grows w, w' = g.w
theorem row_own {w : World} {base g n sz : Nat} {e : TypeId} {xs : List Value} (h : w.heap[g]? = some (.cells xs.toArray e (0, 0))) (hb : base ≤ g) (hl : xs.length = n * sz) (hm : n ≤ maxLen) : w.ownsRow base e sz (.slice (some ⟨g, 0, none⟩) n n) n xs :=
  ⟨hl, .inr ⟨g, n, xs.toArray, rfl, hb, h, Nat.le_refl _, hm, by simpa using hl, by rw [List.take_of_length_le (by simp [hl])]⟩⟩
theorem made_ints (n : Nat) : madeCells (Value.int .i64 0).cells (n * 1) = ((List.replicate n (0 : Int)).map fun x => iv x).toArray := by
  apply Array.ext_getElem?
  intro j
  by_cases hj : j < n
  · simp [madeCells, Value.cells, hj, Nat.mod_one]
  · simp [madeCells, Value.cells, hj]
end Go.Ear
namespace Go.Proofs.YteemkceceaabkaaGreat
open Go.RowKit Go.Ear
set_option maxHeartbeats 4000000
set_option maxRecDepth 100000
set_option linter.unusedSimpArgs false
set_option linter.unusedVariables false

theorem infoInt : (Tryz.prog.info? 3).map (fun i => (i.zero, i.size, i.bytes)) = some (some (.int .i64 0), 1, 8) := by kernel_rfl
theorem lives_good (n : Nat) (A : Option Addr) (c : Nat) (l : List Ev) (w : World) (h1 : 1 ≤ n) (h2 : n ≤ 100) (hE : EvsAt w A c l) (hl : l.length ≤ 10000) :
    Calls Tryz.prog 9 #[i64 n, .slice A l.length c] w (ListTo 3 1 n ((l.foldl (tal n) (List.replicate n 0)).map fun x => iv x) 0 w) := by
  have hn := fun W => isNodes_any n W
  simp only [show (1 : Int) ≤ n ∧ (n : Int) ≤ 100 by omega, and_self, decide_true] at hn
  generalize hr : l.foldl (tal n) (List.replicate n 0) = r
  have HR := Lib.hid hr
  clear hr
  obtain ⟨i0, hi, hz0, hz1, hz2⟩ := info_parts infoInt
  have hmk := run_makeSlice (P := Tryz.prog) w 29 3 i0 _ Tryz.underlying29 hi hz0 .i64 .i64 n n (by omega) (by omega) (by rw [hz1]; omega) (by rw [hz2]; omega) (by omega)
  simp only [hz1, Int.toNat_natCast, made_ints] at hmk
  generalize hlen : l.length = len at *
  have HLEN := Lib.hid hlen
  clear hlen hi hz0 hz1 hz2
  go_enter Tryz.func9, Tryz.ntmps9
  go_wp2_with fail
  refine (hn _).mono ?_
  rintro e w' ⟨rfl, hw⟩
  have hw := hw.symm
  subst hw
  go_wp2
  go_loopw [16] (fun i' wr => ∃ (k : Nat) (cs : List Int), k ≤ len ∧ i' = .int .i64 k ∧ Chg Noth w wr ∧ cs.length = n ∧ wr.heap[w.heap.size]? = some (.cells (cs.map fun x => iv x).toArray 3 (0, 0)) ∧ (l.drop k).foldl (tal n) cs = r) (fun i' _ => len - (intOf i').toNat)
  case atStart =>
    refine ⟨0, List.replicate n 0, by omega, rfl, (by repeat (with_reducible first | exact Chg.refl _ _ | refine chg_m ?_ _ | refine chg_g ?_ _ | refine chg_alloc ?_ _ | refine chg_drew ?_ | refine chg_drewN ?_ _ | refine chg_set ?_ _ _ _)), by simp, ?_, HR.out⟩
    rw [heap_alloc_new]
    simp
  case round =>
    obtain ⟨k, cs, hk, rfl, hc, hcl, hb0, hfold⟩ := hrel
    have jq : Old w.heap.size wr := ⟨(Array.getElem?_eq_some_iff.1 hb0).1⟩
    by_cases hlt : k < len
    · obtain ⟨e, he⟩ : ∃ e, l[k]? = some e := ⟨_, List.getElem?_eq_getElem (by rw [HLEN.out]; exact hlt)⟩
      obtain ⟨b, off, rfl, hb, hcell⟩ := (hE.grow hc).at he
      have hdr : l.drop k = e :: l.drop (k + 1) := by
        obtain ⟨h1, h2⟩ := List.getElem?_eq_some_iff.1 he
        rw [← h2]
        exact List.drop_eq_getElem_cons h1
      rw [hdr, List.foldl_cons] at hfold
      have jb : Old b wr := ⟨hb⟩
      obtain ⟨kind, node, life, round, tag, of, dur, ⟨ha, hb', hc', hd⟩, ⟨ua, ub, uc, ud⟩⟩ := e
      have e0 := hcell 0 (iv kind) rfl
      have e1 := hcell 1 (iv node) rfl
      have e2 := hcell 2 (iv life) rfl
      have e3 := hcell 3 (iv round) rfl
      have e4 := hcell 4 (iv tag) rfl
      have e5 := hcell 5 (iv of) rfl
      have e6 := hcell 6 (iv dur) rfl
      have e7 := hcell 7 (u32v ha) rfl
      have e8 := hcell 8 (u32v hb') rfl
      have e9 := hcell 9 (u32v hc') rfl
      have e10 := hcell 10 (u32v hd) rfl
      have e11 := hcell 11 (u32v ua) rfl
      have e12 := hcell 12 (u32v ub) rfl
      have e13 := hcell 13 (u32v uc) rfl
      have e14 := hcell 14 (u32v ud) rfl
      simp only [Nat.add_zero] at e0
      have HC := Lib.hid hc
      have HB := Lib.hid hb0
      clear hc hcell hdr he
      have HF := Lib.hid hfold
      clear hfold
      by_cases hgo : kind = 1 ∧ 0 ≤ node ∧ node < n
      · obtain ⟨rfl, hn0, hn1⟩ := hgo
        obtain ⟨i, rfl⟩ := Int.eq_ofNat_of_zero_le hn0
        have hin : i < n := by omega
        obtain ⟨v, hv⟩ : ∃ v, cs[i]? = some v := ⟨_, List.getElem?_eq_getElem (by omega)⟩
        have q0 : wr.cell? ⟨w.heap.size, i, none⟩ = some (iv v) := by rw [cell_of_row _ _ _ _ _ _ hb0]; simp [hv]
        have q1 : wr.frozen? ⟨w.heap.size, i, none⟩ = false := frozen_of_row _ _ _ _ _ hb0
        have kq : HasCell wr w.heap.size i := ⟨by rw [q0]; rfl⟩
        clear hb0
        go_wp2
        refine ⟨⟨k + 1, tal n cs ⟨1, (i : Int), life, round, tag, of, dur, ⟨ha, hb', hc', hd⟩, ⟨ua, ub, uc, ud⟩⟩, by omega, by simp, ?_, by rw [tal_len]; exact hcl, ?_, HF.out⟩, by simp [intOf]; omega⟩
        · exact (by repeat (with_reducible first | exact HC.out | exact Chg.refl _ _ | refine chg_m ?_ _ | refine chg_g ?_ _ | refine chg_alloc ?_ _ | refine chg_drew ?_ | refine chg_drewN ?_ _ | refine chg_set ?_ _ _ _))
        · rw [tal, if_pos ⟨rfl, hn0, hn1⟩]
          have hS := heap_setCell_same wr w.heap.size i _ _ (iv (wrap64 (v + 1))) HB.out
          refine (((chg_alloc (Chg.refl Noth _) _).block _ (Array.getElem?_eq_some_iff.1 hS).1 (fun e => e)).trans hS).trans ?_
          simp [hv, List.getD_eq_getElem?_getD, List.map_set]
      · have ht : tal n cs ⟨kind, node, life, round, tag, of, dur, ⟨ha, hb', hc', hd⟩, ⟨ua, ub, uc, ud⟩⟩ = cs := by rw [tal, if_neg hgo]
        have HT := Lib.hid ht
        clear ht
        rcases (show kind ≠ 1 ∨ (kind = 1 ∧ node < 0) ∨ (kind = 1 ∧ 0 ≤ node ∧ n ≤ node) by omega) with h | ⟨rfl, h⟩ | ⟨rfl, h, h'⟩
        · have y1 : ((kind : Int) == 1) = false := by simpa using h
          clear h hgo hb0
          go_wp2
          refine ⟨⟨k + 1, cs, by omega, by simp, (by repeat (with_reducible first | exact HC.out | exact Chg.refl _ _ | refine chg_m ?_ _ | refine chg_g ?_ _ | refine chg_alloc ?_ _ | refine chg_drew ?_ | refine chg_drewN ?_ _ | refine chg_set ?_ _ _ _)), hcl, ((show Chg Noth wr _ from (by repeat (with_reducible first | exact Chg.refl _ _ | refine chg_m ?_ _ | refine chg_g ?_ _ | refine chg_alloc ?_ _ | refine chg_drew ?_ | refine chg_drewN ?_ _ | refine chg_set ?_ _ _ _))).block _ (Array.getElem?_eq_some_iff.1 HB.out).1 (fun e => e)).trans HB.out, by have := HF.out; rw [HT.out] at this; exact this⟩, by simp [intOf]; omega⟩
        · have y1 : decide ((0 : Int) ≤ node) = false := decide_eq_false (by omega)
          clear h hgo hb0
          go_wp2
          refine ⟨⟨k + 1, cs, by omega, by simp, (by repeat (with_reducible first | exact HC.out | exact Chg.refl _ _ | refine chg_m ?_ _ | refine chg_g ?_ _ | refine chg_alloc ?_ _ | refine chg_drew ?_ | refine chg_drewN ?_ _ | refine chg_set ?_ _ _ _)), hcl, ((show Chg Noth wr _ from (by repeat (with_reducible first | exact Chg.refl _ _ | refine chg_m ?_ _ | refine chg_g ?_ _ | refine chg_alloc ?_ _ | refine chg_drew ?_ | refine chg_drewN ?_ _ | refine chg_set ?_ _ _ _))).block _ (Array.getElem?_eq_some_iff.1 HB.out).1 (fun e => e)).trans HB.out, by have := HF.out; rw [HT.out] at this; exact this⟩, by simp [intOf]; omega⟩
        · have y1 : decide ((0 : Int) ≤ node) = true := decide_eq_true h
          have y2 : decide (node < n) = false := decide_eq_false (by omega)
          clear h h' hgo hb0
          go_wp2
          refine ⟨⟨k + 1, cs, by omega, by simp, (by repeat (with_reducible first | exact HC.out | exact Chg.refl _ _ | refine chg_m ?_ _ | refine chg_g ?_ _ | refine chg_alloc ?_ _ | refine chg_drew ?_ | refine chg_drewN ?_ _ | refine chg_set ?_ _ _ _)), hcl, ((show Chg Noth wr _ from (by repeat (with_reducible first | exact Chg.refl _ _ | refine chg_m ?_ _ | refine chg_g ?_ _ | refine chg_alloc ?_ _ | refine chg_drew ?_ | refine chg_drewN ?_ _ | refine chg_set ?_ _ _ _))).block _ (Array.getElem?_eq_some_iff.1 HB.out).1 (fun e => e)).trans HB.out, by have := HF.out; rw [HT.out] at this; exact this⟩, by simp [intOf]; omega⟩
    · obtain rfl : k = len := by omega
      rw [List.drop_of_length_le (by rw [HLEN.out]; exact Nat.le_refl _)] at hfold
      simp only [List.foldl_nil] at hfold
      subst hfold
      have HB := Lib.hid hb0
      have HC := Lib.hid hc
      clear hb0 hc
      go_wp2
      go_ret2
      exact ⟨_, _, rfl, row_own HB.out (Nat.le_refl _) (by simp [hcl]) (Nat.le_trans h2 (by decide)), muts_ex HC.out⟩
theorem livesR_good (n : Nat) (A : Option Addr) (c : Nat) (l : List Ev) (w : World) (h1 : 1 ≤ n) (h2 : n ≤ 100) (hE : EvsAt w A c l) (hl : l.length ≤ 10000) :
    Calls Tryz.prog 10 #[i64 n, .slice A l.length c] w (ListTo 3 1 n ((l.foldl (tal n) (List.replicate n 0)).map fun x => iv x) 0 w) := by
  have x1 : decide ((n : Int) < 1) = false := decide_eq_false (by omega)
  have x2 : decide ((100 : Int) < n) = false := decide_eq_false (by omega)
  have x3 : decide (100 < n) = false := decide_eq_false (by omega)
  have x4 : ¬ n = 0 := by omega
  have x5 : decide (n = 0) = false := decide_eq_false x4
  generalize hr : l.foldl (tal n) (List.replicate n 0) = r
  have HR := Lib.hid hr
  clear hr
  obtain ⟨i0, hi, hz0, hz1, hz2⟩ := info_parts infoInt
  have hmk := run_makeSlice (P := Tryz.prog) w 29 3 i0 _ Tryz.underlying29 hi hz0 .i64 .i64 n n (by omega) (by omega) (by rw [hz1]; omega) (by rw [hz2]; omega) (by omega)
  simp only [hz1, Int.toNat_natCast, made_ints] at hmk
  generalize hlen : l.length = len at *
  have HLEN := Lib.hid hlen
  clear hlen hi hz0 hz1 hz2
  go_enter Tryz.func10, Tryz.ntmps10
  go_wp2
  go_loopw [7] (fun i' wr => ∃ (k : Nat) (cs : List Int), k ≤ len ∧ i' = .int .i64 k ∧ Chg Noth w wr ∧ cs.length = n ∧ wr.heap[w.heap.size]? = some (.cells (cs.map fun x => iv x).toArray 3 (0, 0)) ∧ (l.drop k).foldl (tal n) cs = r) (fun i' _ => len - (intOf i').toNat)
  case atStart =>
    refine ⟨0, List.replicate n 0, by omega, rfl, (by repeat (with_reducible first | exact Chg.refl _ _ | refine chg_m ?_ _ | refine chg_g ?_ _ | refine chg_alloc ?_ _ | refine chg_drew ?_ | refine chg_drewN ?_ _ | refine chg_set ?_ _ _ _)), by simp, ?_, HR.out⟩
    rw [heap_alloc_new]
    simp
  case round =>
    obtain ⟨k, cs, hk, rfl, hc, hcl, hb0, hfold⟩ := hrel
    have jq : Old w.heap.size wr := ⟨(Array.getElem?_eq_some_iff.1 hb0).1⟩
    by_cases hlt : k < len
    · obtain ⟨e, he⟩ : ∃ e, l[k]? = some e := ⟨_, List.getElem?_eq_getElem (by rw [HLEN.out]; exact hlt)⟩
      obtain ⟨b, off, rfl, hb, hcell⟩ := (hE.grow hc).at he
      have hdr : l.drop k = e :: l.drop (k + 1) := by
        obtain ⟨h1, h2⟩ := List.getElem?_eq_some_iff.1 he
        rw [← h2]
        exact List.drop_eq_getElem_cons h1
      rw [hdr, List.foldl_cons] at hfold
      have jb : Old b wr := ⟨hb⟩
      obtain ⟨kind, node, life, round, tag, of, dur, ⟨ha, hb', hc', hd⟩, ⟨ua, ub, uc, ud⟩⟩ := e
      have e0 := hcell 0 (iv kind) rfl
      have e1 := hcell 1 (iv node) rfl
      have e2 := hcell 2 (iv life) rfl
      have e3 := hcell 3 (iv round) rfl
      have e4 := hcell 4 (iv tag) rfl
      have e5 := hcell 5 (iv of) rfl
      have e6 := hcell 6 (iv dur) rfl
      have e7 := hcell 7 (u32v ha) rfl
      have e8 := hcell 8 (u32v hb') rfl
      have e9 := hcell 9 (u32v hc') rfl
      have e10 := hcell 10 (u32v hd) rfl
      have e11 := hcell 11 (u32v ua) rfl
      have e12 := hcell 12 (u32v ub) rfl
      have e13 := hcell 13 (u32v uc) rfl
      have e14 := hcell 14 (u32v ud) rfl
      simp only [Nat.add_zero] at e0
      have HC := Lib.hid hc
      have HB := Lib.hid hb0
      clear hc hcell hdr he
      have HF := Lib.hid hfold
      clear hfold
      by_cases hgo : kind = 1 ∧ 0 ≤ node ∧ node < n
      · obtain ⟨rfl, hn0, hn1⟩ := hgo
        obtain ⟨i, rfl⟩ := Int.eq_ofNat_of_zero_le hn0
        have hin : i < n := by omega
        obtain ⟨v, hv⟩ : ∃ v, cs[i]? = some v := ⟨_, List.getElem?_eq_getElem (by omega)⟩
        have q0 : wr.cell? ⟨w.heap.size, i, none⟩ = some (iv v) := by rw [cell_of_row _ _ _ _ _ _ hb0]; simp [hv]
        have q1 : wr.frozen? ⟨w.heap.size, i, none⟩ = false := frozen_of_row _ _ _ _ _ hb0
        have kq : HasCell wr w.heap.size i := ⟨by rw [q0]; rfl⟩
        clear hb0
        go_wp2
        refine ⟨⟨k + 1, tal n cs ⟨1, (i : Int), life, round, tag, of, dur, ⟨ha, hb', hc', hd⟩, ⟨ua, ub, uc, ud⟩⟩, by omega, by simp, ?_, by rw [tal_len]; exact hcl, ?_, HF.out⟩, by simp [intOf]; omega⟩
        · exact (by repeat (with_reducible first | exact HC.out | exact Chg.refl _ _ | refine chg_m ?_ _ | refine chg_g ?_ _ | refine chg_alloc ?_ _ | refine chg_drew ?_ | refine chg_drewN ?_ _ | refine chg_set ?_ _ _ _))
        · rw [tal, if_pos ⟨rfl, hn0, hn1⟩]
          have hS := heap_setCell_same wr w.heap.size i _ _ (iv (wrap64 (v + 1))) HB.out
          refine hS.trans ?_
          simp [hv, List.getD_eq_getElem?_getD, List.map_set]
      · have ht : tal n cs ⟨kind, node, life, round, tag, of, dur, ⟨ha, hb', hc', hd⟩, ⟨ua, ub, uc, ud⟩⟩ = cs := by rw [tal, if_neg hgo]
        have HT := Lib.hid ht
        clear ht
        rcases (show kind ≠ 1 ∨ (kind = 1 ∧ node < 0) ∨ (kind = 1 ∧ 0 ≤ node ∧ n ≤ node) by omega) with h | ⟨rfl, h⟩ | ⟨rfl, h, h'⟩
        · have y1 : ((kind : Int) == 1) = false := by simpa using h
          clear h hgo hb0
          go_wp2
          refine ⟨⟨k + 1, cs, by omega, by simp, (by repeat (with_reducible first | exact HC.out | exact Chg.refl _ _ | refine chg_m ?_ _ | refine chg_g ?_ _ | refine chg_alloc ?_ _ | refine chg_drew ?_ | refine chg_drewN ?_ _ | refine chg_set ?_ _ _ _)), hcl, ((show Chg Noth wr _ from (by repeat (with_reducible first | exact Chg.refl _ _ | refine chg_m ?_ _ | refine chg_g ?_ _ | refine chg_alloc ?_ _ | refine chg_drew ?_ | refine chg_drewN ?_ _ | refine chg_set ?_ _ _ _))).block _ (Array.getElem?_eq_some_iff.1 HB.out).1 (fun e => e)).trans HB.out, by have := HF.out; rw [HT.out] at this; exact this⟩, by simp [intOf]; omega⟩
        · have y1 : decide ((0 : Int) ≤ node) = false := decide_eq_false (by omega)
          clear h hgo hb0
          go_wp2
          refine ⟨⟨k + 1, cs, by omega, by simp, (by repeat (with_reducible first | exact HC.out | exact Chg.refl _ _ | refine chg_m ?_ _ | refine chg_g ?_ _ | refine chg_alloc ?_ _ | refine chg_drew ?_ | refine chg_drewN ?_ _ | refine chg_set ?_ _ _ _)), hcl, ((show Chg Noth wr _ from (by repeat (with_reducible first | exact Chg.refl _ _ | refine chg_m ?_ _ | refine chg_g ?_ _ | refine chg_alloc ?_ _ | refine chg_drew ?_ | refine chg_drewN ?_ _ | refine chg_set ?_ _ _ _))).block _ (Array.getElem?_eq_some_iff.1 HB.out).1 (fun e => e)).trans HB.out, by have := HF.out; rw [HT.out] at this; exact this⟩, by simp [intOf]; omega⟩
        · have y1 : decide ((0 : Int) ≤ node) = true := decide_eq_true h
          have y2 : decide (node < n) = false := decide_eq_false (by omega)
          clear h h' hgo hb0
          go_wp2
          refine ⟨⟨k + 1, cs, by omega, by simp, (by repeat (with_reducible first | exact HC.out | exact Chg.refl _ _ | refine chg_m ?_ _ | refine chg_g ?_ _ | refine chg_alloc ?_ _ | refine chg_drew ?_ | refine chg_drewN ?_ _ | refine chg_set ?_ _ _ _)), hcl, ((show Chg Noth wr _ from (by repeat (with_reducible first | exact Chg.refl _ _ | refine chg_m ?_ _ | refine chg_g ?_ _ | refine chg_alloc ?_ _ | refine chg_drew ?_ | refine chg_drewN ?_ _ | refine chg_set ?_ _ _ _))).block _ (Array.getElem?_eq_some_iff.1 HB.out).1 (fun e => e)).trans HB.out, by have := HF.out; rw [HT.out] at this; exact this⟩, by simp [intOf]; omega⟩
    · obtain rfl : k = len := by omega
      rw [List.drop_of_length_le (by rw [HLEN.out]; exact Nat.le_refl _)] at hfold
      simp only [List.foldl_nil] at hfold
      subst hfold
      have HB := Lib.hid hb0
      have HC := Lib.hid hc
      clear hb0 hc
      go_wp2
      go_ret2
      exact ⟨_, _, rfl, row_own HB.out (Nat.le_refl _) (by simp [hcl]) (Nat.le_trans h2 (by decide)), muts_ex HC.out⟩
theorem lives_bad (n : Int) (v : Value) (w : World) (h : ¬ (1 ≤ n ∧ n ≤ 100)) : Calls Tryz.prog 9 #[i64 n, v] w (ListTo 3 1 0 [] 1 w) := by
  have hn := fun W => isNodes_any n W
  simp only [h, decide_false] at hn
  clear h
  go_enter Tryz.func9, Tryz.ntmps9
  go_wp2_with fail
  refine (hn _).mono ?_
  rintro e w' ⟨rfl, hw⟩
  have hw := hw.symm
  subst hw
  go_wp2
  go_ret2
  exact ⟨_, _, rfl, World.ownsRow_nil _ _ _ _, muts_ex (Chg.refl _ _)⟩
theorem livesR_bad (n : Int) (v : Value) (w : World) (h : ¬ (1 ≤ n ∧ n ≤ 100)) : Calls Tryz.prog 10 #[i64 n, v] w (ListTo 3 1 0 [] 1 w) := by
  rcases (show n < 1 ∨ (1 ≤ n ∧ 100 < n) by omega) with h1 | ⟨h0, h1⟩
  · have x1 : decide ((n : Int) < 1) = true := decide_eq_true h1
    clear h h1
    go_enter Tryz.func10, Tryz.ntmps10
    go_wp2
    go_ret2
    exact ⟨_, _, rfl, World.ownsRow_nil _ _ _ _, muts_ex (Chg.refl _ _)⟩
  · have x1 : decide ((n : Int) < 1) = false := decide_eq_false (by omega)
    have x2 : decide ((100 : Int) < n) = true := decide_eq_true h1
    clear h h0 h1
    go_enter Tryz.func10, Tryz.ntmps10
    go_wp2
    go_ret2
    exact ⟨_, _, rfl, World.ownsRow_nil _ _ _ _, muts_ex (Chg.refl _ _)⟩
/-- What Lives answers: the number of cells, the cells, the error. -/
def livesOf (n : Int) (l : List Ev) : Nat × List Value × Int := if 1 ≤ n ∧ n ≤ 100 then (n.toNat, (l.foldl (tal n) (List.replicate n.toNat 0)).map fun x => iv x, 0) else (0, [], 1)
theorem lives_any (n : Int) (A : Option Addr) (c : Nat) (l : List Ev) (w : World) (hE : EvsAt w A c l) (hl : l.length ≤ 10000) :
    Calls Tryz.prog 9 #[i64 n, .slice A l.length c] w (ListTo 3 1 (livesOf n l).1 (livesOf n l).2.1 (livesOf n l).2.2 w) := by
  by_cases h : 1 ≤ n ∧ n ≤ 100
  · obtain ⟨n, rfl⟩ := Int.eq_ofNat_of_zero_le (show 0 ≤ n by omega)
    rw [livesOf, if_pos h]
    exact lives_good n A c l w (by omega) (by omega) hE hl
  · rw [livesOf, if_neg h]
    exact lives_bad n _ w h
theorem livesR_any (n : Int) (A : Option Addr) (c : Nat) (l : List Ev) (w : World) (hE : EvsAt w A c l) (hl : l.length ≤ 10000) :
    Calls Tryz.prog 10 #[i64 n, .slice A l.length c] w (ListTo 3 1 (livesOf n l).1 (livesOf n l).2.1 (livesOf n l).2.2 w) := by
  by_cases h : 1 ≤ n ∧ n ≤ 100
  · obtain ⟨n, rfl⟩ := Int.eq_ofNat_of_zero_le (show 0 ≤ n by omega)
    rw [livesOf, if_pos h]
    exact livesR_good n A c l w (by omega) (by omega) hE hl
  · rw [livesOf, if_neg h]
    exact livesR_bad n _ w h
end Go.Proofs.YteemkceceaabkaaGreat
