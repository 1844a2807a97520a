/- alive, SameEvents, stays. -/
import Derived.Test.YteemkceceaabkaaGreatAl1z
import Derived.Test.YteemkceceaabkaaGreatAg1
namespace Go.Proofs.YteemkceceaabkaaGreat
open Go.RowKit Go.Ear
set_option maxHeartbeats 4000000
set_option maxRecDepth 100000
set_option linter.unusedSimpArgs false
set_option linter.unusedVariables false

theorem sameEv_any (A A' : Option Addr) (c c' : Nat) (l : List Ev) (w : World) (hE : EvsAt w A c l) (hE' : EvsAt w A' c' l) (hn : l.length ≤ 5000) :
    Calls Tryz.prog 28 #[.slice A l.length c, .slice A' l.length c'] w (Gr (.bool true) w) := by
  have hgs := guardEv
  generalize hlen : l.length = len at *
  have HLEN := Lib.hid hlen
  clear hlen
  have x0 : ((len : Int) != (len : Int)) = false := by simp
  go_enter Tryz.func28, Tryz.ntmps28
  go_wp2
  go_loopw [5] (fun i' wr => ∃ k : Nat, k ≤ len ∧ i' = .int .i64 k ∧ Chg Noth w wr) (fun i' _ => len - (intOf i').toNat)
  case atStart => exact ⟨0, by omega, rfl, (by repeat (with_reducible first | exact Chg.refl _ _ | refine chg_m ?_ _ | refine chg_g ?_ _ | refine chg_alloc ?_ _ | refine chg_drew ?_ | refine chg_drewN ?_ _ | refine chg_set ?_ _ _ _))⟩
  case round =>
    obtain ⟨k, hk, rfl, hc⟩ := hrel
    by_cases hlt : k < len
    · obtain ⟨e, he⟩ : ∃ e, l[k]? = some e := ⟨_, List.getElem?_eq_getElem (by rw [HLEN.out]; exact hlt)⟩
      obtain ⟨b, off, rfl, hb, hcell⟩ := (hE.grow hc).at he
      obtain ⟨b', off', rfl, hb', hcell'⟩ := (hE'.grow hc).at he
      have jb : Old b wr := ⟨hb⟩
      have jb' : Old b' wr := ⟨hb'⟩
      have heq : ∀ W, (Op.equalIn 10000 78 e.v e.v).run Tryz.prog W = .ok true W := fun W => (eqEv W e e).trans (by simp)
      obtain ⟨kind, node, life, round, tag, of, dur, ⟨ha, hb2, hc', hd⟩, ⟨ua, ub, uc, ud⟩⟩ := e
      replace heq : ∀ W, (Op.equalIn 10000 78 (.agg #[iv kind, iv node, iv life, iv round, iv tag, iv of, iv dur, u32v ha, u32v hb2, u32v hc', u32v hd, u32v ua, u32v ub, u32v uc, u32v ud]) (.agg #[iv kind, iv node, iv life, iv round, iv tag, iv of, iv dur, u32v ha, u32v hb2, u32v hc', u32v hd, u32v ua, u32v ub, u32v uc, u32v ud])).run Tryz.prog W = .ok true W := heq
      have e0 := hcell 0 (iv kind) rfl
      have e1 := hcell 1 (iv node) rfl
      have e2 := hcell 2 (iv life) rfl
      have e3 := hcell 3 (iv round) rfl
      have e4 := hcell 4 (iv tag) rfl
      have e5 := hcell 5 (iv of) rfl
      have e6 := hcell 6 (iv dur) rfl
      have e7 := hcell 7 (u32v ha) rfl
      have e8 := hcell 8 (u32v hb2) rfl
      have e9 := hcell 9 (u32v hc') rfl
      have e10 := hcell 10 (u32v hd) rfl
      have e11 := hcell 11 (u32v ua) rfl
      have e12 := hcell 12 (u32v ub) rfl
      have e13 := hcell 13 (u32v uc) rfl
      have e14 := hcell 14 (u32v ud) rfl
      have f0 := hcell' 0 (iv kind) rfl
      have f1 := hcell' 1 (iv node) rfl
      have f2 := hcell' 2 (iv life) rfl
      have f3 := hcell' 3 (iv round) rfl
      have f4 := hcell' 4 (iv tag) rfl
      have f5 := hcell' 5 (iv of) rfl
      have f6 := hcell' 6 (iv dur) rfl
      have f7 := hcell' 7 (u32v ha) rfl
      have f8 := hcell' 8 (u32v hb2) rfl
      have f9 := hcell' 9 (u32v hc') rfl
      have f10 := hcell' 10 (u32v hd) rfl
      have f11 := hcell' 11 (u32v ua) rfl
      have f12 := hcell' 12 (u32v ub) rfl
      have f13 := hcell' 13 (u32v uc) rfl
      have f14 := hcell' 14 (u32v ud) rfl
      simp only [Nat.add_zero] at e0 f0
      have HC := Lib.hid hc
      have hkl : (k : Int) < (len : Int) := by omega
      have hk0 : (0 : Int) ≤ (k : Int) := by omega
      clear hc hcell hcell' he
      go_wp2
      refine wp_region_grows (by kernel_rfl) (by kernel_rfl) ?_
      repeat (go_big_quiet_step (fail))
      refine wpQuiet_nil ?_
      rintro _ ⟨gg, rfl⟩
      go_wp2
      exact ⟨⟨k + 1, by omega, by simp, (by repeat (with_reducible first | exact HC.out | exact Chg.refl _ _ | refine chg_m ?_ _ | refine chg_g ?_ _ | refine chg_alloc ?_ _ | refine chg_drew ?_ | refine chg_drewN ?_ _ | refine chg_set ?_ _ _ _))⟩, by simp [intOf]; omega⟩
    · obtain rfl : k = len := by omega
      have HC := Lib.hid hc
      clear hc
      go_wp2
      go_ret
      exact gr_mk rfl (by repeat (with_reducible first | exact HC.out | exact Chg.refl _ _ | refine chg_m ?_ _ | refine chg_g ?_ _ | refine chg_alloc ?_ _ | refine chg_drew ?_ | refine chg_drewN ?_ _ | refine chg_set ?_ _ _ _))
theorem stays19_any (g cap : Nat) (A : Option Addr) (c : Nat) (l : List Ev) (w : World) (hM : EvsAt w (some ⟨g, 0, none⟩) cap (l ++ [M77, M78])) (hcap : l.length + 2 ≤ cap) (hE : EvsAt w A c l) (hn : l.length ≤ 5000) :
    Calls Tryz.prog 15 #[.slice (some ⟨g, 0, none⟩) l.length cap, .slice A l.length c] w (Gr (.bool true) w) := by
  have hsame := fun W h h' => sameEv_any (some ⟨g, 0, none⟩) A cap c l W h h' hn
  obtain ⟨b1, o1, e1, hb1, hc1⟩ := hM.at (i := l.length) (e := M77) (by simp)
  obtain ⟨b2, o2, e2, hb2, hc2⟩ := hM.at (i := l.length + 1) (e := M78) (by rw [List.getElem?_append_right (by omega), show l.length + 1 - l.length = 1 by omega]; rfl)
  simp only [Option.some.injEq, Addr.mk.injEq, and_true] at e1 e2
  obtain ⟨rfl, rfl⟩ := e1
  obtain ⟨rfl, rfl⟩ := e2
  have d1 := hc1 1 (iv (-77)) rfl
  have d2 := hc2 1 (iv (-78)) rfl
  have hf := evs_front hM
  simp only [Nat.zero_add] at d1 d2
  have jg : Old g w := ⟨hb1⟩
  clear hc1 hc2 hM
  generalize hlen : l.length = len at *
  have hsl := fun W => slice_front W ⟨g, 0, none⟩ len cap (len + 2) ((len : Int) + 2) (by omega) hcap
  have hl0 : (0 : Int) ≤ (len : Int) := by omega
  clear hlen
  go_enter Tryz.func15, Tryz.ntmps15
  go_wp2_with (go_at_call 28; refine (hsame _ (hf.grow (by repeat (with_reducible first | exact Chg.refl _ _ | refine chg_m ?_ _ | refine chg_g ?_ _ | refine chg_alloc ?_ _ | refine chg_drew ?_ | refine chg_drewN ?_ _ | refine chg_set ?_ _ _ _))) (hE.grow (by repeat (with_reducible first | exact Chg.refl _ _ | refine chg_m ?_ _ | refine chg_g ?_ _ | refine chg_alloc ?_ _ | refine chg_drew ?_ | refine chg_drewN ?_ _ | refine chg_set ?_ _ _ _)))).mono ?_; rintro e w' ⟨rfl, gq, rfl⟩)
  go_ret
  exact gr_mk rfl (by repeat (with_reducible first | exact Chg.refl _ _ | refine chg_m ?_ _ | refine chg_g ?_ _ | refine chg_alloc ?_ _ | refine chg_drew ?_ | refine chg_drewN ?_ _ | refine chg_set ?_ _ _ _))
abbrev AL : List Ev := [⟨1, 0, 1, 1, 0, 0, 0, .zero, .zero⟩, ⟨2, 0, 2, 1, 0, 0, 0, .zero, .zero⟩]
theorem alive_says : auCheck 3 1 AL = (1, 220) ∧ auCheck 3 1 [] = (0, 0) := by decide +kernel
theorem alive19_any (w : World) : Calls Tryz.prog 7 #[] w (Gr (.bool true) w) := by
  have h1 := fun A c W h => check_any 3 1 A c AL W h (by decide)
  have h2 := fun A c W h => check_any 3 1 A c [] W h (by decide)
  rw [alive_says.1] at h1
  rw [alive_says.2] at h2
  have hat : ∀ (W : World) (b : Nat), W.heap[b]? = some (.cells (ecells AL).toArray 78 (0, 0)) → EvsAt W (some ⟨b, 0, none⟩) 2 AL := fun W b h =>
    ⟨⟨rfl, _, _, rfl, fun h => by simp at h, Nat.le_refl _, fun _ => ⟨b, 0, rfl, (Array.getElem?_eq_some_iff.1 h).1, fun i u hu => by rw [Nat.zero_add, cell_of_row _ _ _ _ _ _ h, List.getElem?_toArray]; exact hu⟩⟩,
      fun e he => by simp only [AL, List.mem_cons, List.not_mem_nil, or_false] at he; rcases he with rfl | rfl <;> exact Ev.zero_ok⟩
  have hnil : ∀ (W : World), EvsAt W none 0 [] := fun W => ⟨⟨rfl, none, 0, rfl, fun _ => ⟨rfl, rfl⟩, Nat.le_refl _, fun h => absurd h (by simp)⟩, fun e he => by simp at he⟩
  go_enter Tryz.func7, Tryz.ntmps7
  go_wp2_with fail
  refine (h1 _ _ _ (hat _ w.heap.size (heap_alloc_new _ _))).mono ?_
  rintro e w' ⟨rfl, g1, rfl⟩
  go_wp2_with fail
  refine (h2 _ _ _ (hnil _)).mono ?_
  rintro e w' ⟨rfl, g2, rfl⟩
  go_wp2
  go_ret
  exact gr_mk rfl (by repeat (with_reducible first | exact Chg.refl _ _ | refine chg_m ?_ _ | refine chg_g ?_ _ | refine chg_alloc ?_ _ | refine chg_drew ?_ | refine chg_drewN ?_ _ | refine chg_set ?_ _ _ _))
end Go.Proofs.YteemkceceaabkaaGreat
