/- The auditor's Check. -/
import Derived.Test.YteemkceceaabkaaGreatAg0
import Derived.Test.YteemkceceaabkaaGreatAef
import Derived.Scope
import Derived.Laws.MakeOwn
namespace Go.Proofs.YteemkceceaabkaaGreat
open Go.RowKit Go.Ear
set_option maxHeartbeats 4000000
set_option maxRecDepth 100000
set_option linter.unusedSimpArgs false
set_option linter.unusedVariables false

theorem isNodes_any (n : Int) (w : World) : Calls Tryz.prog 24 #[i64 n] w fun e w' => e = .returned (.bool (decide (1 ≤ n ∧ n ≤ 100))) ∧ w' = w := by
  rcases (show n < 1 ∨ (1 ≤ n ∧ 100 < n) ∨ (1 ≤ n ∧ n ≤ 100) by omega) with h | ⟨h0, h1⟩ | ⟨h0, h1⟩
  · have hd : decide (1 ≤ n ∧ n ≤ 100) = false := decide_eq_false (by omega)
    rw [hd]
    have x1 : decide (1 ≤ n) = false := decide_eq_false (by omega)
    clear hd h
    go_enter Tryz.func24, Tryz.ntmps24
    go_wp2
    go_ret
    exact ⟨rfl, rfl⟩
  · have hd : decide (1 ≤ n ∧ n ≤ 100) = false := decide_eq_false (by omega)
    rw [hd]
    have x1 : decide (n ≤ 100) = false := decide_eq_false (by omega)
    clear hd h1
    go_enter Tryz.func24, Tryz.ntmps24
    go_wp2
    go_ret
    exact ⟨rfl, rfl⟩
  · have hd : decide (1 ≤ n ∧ n ≤ 100) = true := decide_eq_true (by omega)
    rw [hd]
    clear hd
    go_enter Tryz.func24, Tryz.ntmps24
    go_wp2
    go_ret
    exact ⟨rfl, rfl⟩
theorem infoSeen : (Tryz.prog.info? 183).map (fun i => (i.zero, i.size, i.bytes)) = some (some (.agg #[.bool false, .int .i64 0, .int .i64 0, .int .i64 0, .int .i64 0, .int .i64 0]), 6, 48) := by kernel_rfl
theorem made_seen (n : Nat) : madeCells (Value.agg #[.bool false, .int .i64 0, .int .i64 0, .int .i64 0, .int .i64 0, .int .i64 0]).cells (n * 6) = (ncells (List.replicate n ⟨false, 0, 0, 0, 0⟩)).toArray := by
  refine Array.ext_getElem? fun j => ?_
  by_cases hj : j < n * 6
  · have h1 : (List.replicate n (⟨false, 0, 0, 0, 0⟩ : Nd))[j / 6]? = some ⟨false, 0, 0, 0, 0⟩ := by rw [List.getElem?_replicate, if_pos (by omega)]
    have h2 := ncells_get _ (j / 6) (j % 6) _ h1 (Nat.mod_lt _ (by decide))
    rw [show j / 6 * 6 + j % 6 = j by omega] at h2
    have h3 : (ncells (List.replicate n (⟨false, 0, 0, 0, 0⟩ : Nd))).toArray[j]? = (Nd.cells ⟨false, 0, 0, 0, 0⟩)[j % 6]? := by simpa using h2
    rw [h3]
    simp only [madeCells, Value.cells, Array.getElem?_map, Array.getElem?_range, hj, if_true, Option.map_some]
    rcases (show j % 6 = 0 ∨ j % 6 = 1 ∨ j % 6 = 2 ∨ j % 6 = 3 ∨ j % 6 = 4 ∨ j % 6 = 5 by omega) with h | h | h | h | h | h <;> simp [h, Nd.cells]
  · rw [Array.getElem?_eq_none (by rw [size_madeCells]; omega), Array.getElem?_eq_none (by simp only [List.size_toArray, ncells_len, List.length_replicate]; omega)]
theorem auCheck_bad (n f : Int) (l : List Ev) (h : n < 1 ∨ 100 < n ∨ f < 0 ∨ n ≤ f) : auCheck n f l = (0, 1) := by
  unfold auCheck
  rw [if_pos h]
theorem check_bad (n f : Int) (v : Value) (w : World) (h : n < 1 ∨ 100 < n ∨ f < 0 ∨ n ≤ f) : Calls Tryz.prog 23 #[i64 n, i64 f, v] w (Gr (.tuple #[i64 0, i64 1]) w) := by
  have hn := fun W => isNodes_any n W
  rcases (show ¬ (1 ≤ n ∧ n ≤ 100) ∨ ((1 ≤ n ∧ n ≤ 100) ∧ f < 0) ∨ ((1 ≤ n ∧ n ≤ 100) ∧ 0 ≤ f ∧ n ≤ f) by omega) with h1 | ⟨h1, h2⟩ | ⟨h1, h2, h3⟩
  all_goals
    simp only [h1, decide_true, decide_false] at hn
    clear h h1
    go_enter Tryz.func23, Tryz.ntmps23
    go_wp2_with fail
    refine wp_scope_straight ?_
    go_wp2_with fail
    refine (hn _).mono ?_
    rintro e w' ⟨rfl, hw⟩
    have hw := hw.symm
    subst hw
    go_wp2
    go_ret2
    exact gr_mk rfl (by repeat (with_reducible first | exact Chg.refl _ _ | refine chg_m ?_ _ | refine chg_g ?_ _ | refine chg_alloc ?_ _ | refine chg_drew ?_ | refine chg_drewN ?_ _ | refine chg_set ?_ _ _ _))
theorem check_good (n f : Nat) (A : Option Addr) (c : Nat) (l : List Ev) (w : World) (h1 : 1 ≤ n) (h2 : n ≤ 100) (h3 : f < n) (hE : EvsAt w A c l) (hl : l.length ≤ 10000) :
    Calls Tryz.prog 23 #[i64 n, i64 f, .slice A l.length c] w (Gr (.tuple #[i64 (auCheck n f l).1, i64 (auCheck n f l).2]) w) := by
  have hn := fun W => isNodes_any n W
  simp only [show (1 : Int) ≤ n ∧ (n : Int) ≤ 100 by omega, and_self, decide_true] at hn
  have hR : auCheck n f l = Au.check n f (Au.start n) l 0 := by
    unfold auCheck
    rw [if_neg (by omega)]
  generalize hr : auCheck n f l = R at hR ⊢
  obtain ⟨r1, r2⟩ := R
  simp only
  have HR := Lib.hid hR
  clear hR hr
  obtain ⟨i0, hi, hz0, hz1, hz2⟩ := info_parts infoSeen
  have hmk := run_makeSlice (P := Tryz.prog) w 127 183 i0 _ Tryz.underlying127 hi hz0 .i64 .i64 n n (by omega) (by omega) (by rw [hz1]; omega) (by rw [hz2]; omega) (by omega)
  simp only [hz1, Int.toNat_natCast, made_seen] at hmk
  generalize hlen : l.length = len at *
  have HLEN := Lib.hid hlen
  clear hlen hi hz0 hz1 hz2
  have x1 : decide ((f : Int) < 0) = false := decide_eq_false (by omega)
  have x2 : decide (n ≤ f) = false := decide_eq_false (by omega)
  go_enter Tryz.func23, Tryz.ntmps23
  go_wp2_with fail
  refine wp_scope_straight ?_
  go_wp2_with fail
  refine (hn _).mono ?_
  rintro e w' ⟨rfl, hw⟩
  have hw := hw.symm
  subst hw
  go_wp2
  refine wp_label ?_
  go_wp2
  go_loopw [31] (fun i' wr => ∃ (k : Nat) (s : Au), k ≤ len ∧ i' = .int .i64 k ∧ Chg Noth w wr ∧ AuIs wr (w.heap.size + 1) w.heap.size n f s ∧ Au.check n f s (l.drop k) k = (r1, r2)) (fun i' _ => len - (intOf i').toNat)
  case atStart =>
    refine ⟨0, Au.start n, by omega, rfl, (by repeat (with_reducible first | exact Chg.refl _ _ | refine chg_m ?_ _ | refine chg_g ?_ _ | refine chg_alloc ?_ _ | refine chg_drew ?_ | refine chg_drewN ?_ _ | refine chg_set ?_ _ _ _)), ?_, HR.out.symm⟩
    refine ⟨by omega, ?_, ?_, by simp [Au.start], h2, h3, St.zero_ok, St.zero_ok⟩
    · exact heap_hs _ _ _
    · rw [Below.heap_alloc _ _ _ (by simp), heap_alloc_new]
      simp [Au.start]
  case round =>
    obtain ⟨k, s, hk, rfl, hc, hA, hchk⟩ := hrel
    have jp : Old (w.heap.size + 1) wr := ⟨hA.ltp⟩
    have jq : Old w.heap.size wr := ⟨hA.ltq⟩
    by_cases hlt : k < len
    · obtain ⟨e, he⟩ : ∃ e, l[k]? = some e := ⟨_, List.getElem?_eq_getElem (by rw [HLEN.out]; exact hlt)⟩
      obtain ⟨b, off, rfl, hb, hcell⟩ := (hE.grow hc).at he
      have hok := hE.2 e (List.mem_of_getElem? he)
      have hdr : l.drop k = e :: l.drop (k + 1) := by
        obtain ⟨h1, h2⟩ := List.getElem?_eq_some_iff.1 he
        rw [← h2]
        exact List.drop_eq_getElem_cons h1
      rw [hdr] at hchk
      have hof := fun W h => offends_any W (w.heap.size + 1) w.heap.size n f s e h hok
      have jb : Old b wr := ⟨hb⟩
      have mp := may_p w (w.heap.size + 1) w.heap.size
      simp only [Au.check] at hchk
      generalize hst : s.step n f e = r at hof hchk
      clear hst
      obtain ⟨kind, node, life, round, tag, of, dur, ⟨ha, hb', hc', hd⟩, ⟨ua, ub, uc, ud⟩⟩ := e
      have e0 := hcell 0 (iv kind) rfl
      have e1 := hcell 1 (iv node) rfl
      have e2 := hcell 2 (iv life) rfl
      have e3 := hcell 3 (iv round) rfl
      have e4 := hcell 4 (iv tag) rfl
      have e5 := hcell 5 (iv of) rfl
      have e6 := hcell 6 (iv dur) rfl
      have e7 := hcell 7 (u32v ha) rfl
      have e8 := hcell 8 (u32v hb') rfl
      have e9 := hcell 9 (u32v hc') rfl
      have e10 := hcell 10 (u32v hd) rfl
      have e11 := hcell 11 (u32v ua) rfl
      have e12 := hcell 12 (u32v ub) rfl
      have e13 := hcell 13 (u32v uc) rfl
      have e14 := hcell 14 (u32v ud) rfl
      simp only [Nat.add_zero] at e0
      have HCK := Lib.hid hchk
      have HC := Lib.hid hc
      have HA := Lib.hid hA
      clear hchk hc hA hcell hok hdr he
      go_wp2_with fail
      refine (hof _ (HA.out.grow (by repeat (with_reducible first | exact Chg.refl _ _ | refine chg_m ?_ _ | refine chg_g ?_ _ | refine chg_alloc ?_ _ | refine chg_drew ?_ | refine chg_drewN ?_ _ | refine chg_set ?_ _ _ _)))).mono ?_
      rintro en X ⟨hC, ⟨hr, rfl⟩ | ⟨s', hr, rfl, hA2⟩⟩
      all_goals
        have hCw : Chg Noth w X := Chg.trans (G := pq (w.heap.size + 1) w.heap.size) (by repeat (with_reducible first | exact HC.out | exact Chg.refl _ _ | refine chg_m ?_ _ | refine chg_g ?_ _ | refine chg_alloc ?_ _ | refine chg_drew ?_ | refine chg_drewN ?_ _ | refine chg_set ?_ _ _ _)) hC (fun i hi h => by rcases h with h | h <;> omega)
        subst hr
        have HCw := Lib.hid hCw
        clear hC hCw
      · have hck := HCK.out
        simp only [Prod.mk.injEq] at hck
        obtain ⟨rfl, rfl⟩ := hck
        go_wp2
        go_ret2
        exact gr_mk rfl (by repeat (with_reducible first | exact HCw.out | exact Chg.refl _ _ | refine chg_m ?_ _ | refine chg_g ?_ _ | refine chg_alloc ?_ _ | refine chg_drew ?_ | refine chg_drewN ?_ _ | refine chg_set ?_ _ _ _))
      · have HA2 := Lib.hid hA2
        clear hA2
        go_wp2
        refine ⟨⟨k + 1, s', by omega, by simp, (by repeat (with_reducible first | exact HCw.out | exact Chg.refl _ _ | refine chg_m ?_ _ | refine chg_g ?_ _ | refine chg_alloc ?_ _ | refine chg_drew ?_ | refine chg_drewN ?_ _ | refine chg_set ?_ _ _ _)), ?_, by have := HCK.out; simpa using this⟩, by simp [intOf]; omega⟩
        first | exact HA2.out | exact HA2.out.grow (by repeat (with_reducible first | exact Chg.refl _ _ | refine chg_m ?_ _ | refine chg_g ?_ _ | refine chg_alloc ?_ _ | refine chg_drew ?_ | refine chg_drewN ?_ _ | refine chg_set ?_ _ _ _))
    · obtain rfl : k = len := by omega
      rw [List.drop_of_length_le (by rw [HLEN.out]; exact Nat.le_refl _)] at hchk
      simp only [Au.check] at hchk
      obtain ⟨cp3, fp3, kp3⟩ := hA.cellp 3 (.bool s.row) rfl
      have HCK := Lib.hid hchk
      have HC := Lib.hid hc
      clear hchk hc hA
      cases hrow : s.row
      all_goals
        rw [hrow] at HCK cp3
        clear hrow
        go_wp2
        go_ret2
        have hck := HCK.out
        simp only [Bool.false_eq_true, if_false, if_true, Prod.mk.injEq] at hck
        obtain ⟨rfl, rfl⟩ := hck
        exact gr_mk rfl (by repeat (with_reducible first | exact HC.out | exact Chg.refl _ _ | refine chg_m ?_ _ | refine chg_g ?_ _ | refine chg_alloc ?_ _ | refine chg_drew ?_ | refine chg_drewN ?_ _ | refine chg_set ?_ _ _ _))
theorem check_any (n f : Int) (A : Option Addr) (c : Nat) (l : List Ev) (w : World) (hE : EvsAt w A c l) (hl : l.length ≤ 10000) :
    Calls Tryz.prog 23 #[i64 n, i64 f, .slice A l.length c] w (Gr (.tuple #[i64 (auCheck n f l).1, i64 (auCheck n f l).2]) w) := by
  by_cases h : n < 1 ∨ 100 < n ∨ f < 0 ∨ n ≤ f
  · rw [auCheck_bad n f l h]
    exact check_bad n f _ w h
  · obtain ⟨n, rfl⟩ := Int.eq_ofNat_of_zero_le (show 0 ≤ n by omega)
    obtain ⟨f, rfl⟩ := Int.eq_ofNat_of_zero_le (show 0 ≤ f by omega)
    exact check_good n f A c l w (by omega) (by omega) (by omega) hE hl
end Go.Proofs.YteemkceceaabkaaGreat
