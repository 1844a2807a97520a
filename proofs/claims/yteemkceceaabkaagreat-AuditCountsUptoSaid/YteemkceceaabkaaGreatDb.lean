/- Doubts: the program's. -/
import Derived.Test.YteemkceceaabkaaGreatLv
import Derived.Test.YteemkceceaabkaaGreatNv
import Derived.Test.YteemkceceaabkaaGreatBw
namespace Go.Ear
open Go.RowKit
/-- Does the event begin a suspicion that counts? -/
def Cnt (n : Int) (e : Ev) : Prop := e.kind = 4 ∧ 0 ≤ e.node ∧ e.node < n ∧ Sus n e.of e.tag
instance (n : Int) (e : Ev) : Decidable (Cnt n e) := by unfold Cnt; infer_instance
/-- What is the greatest of node j, an event later? -/
def one (n j : Int) (b : Option Int) (e : Ev) : Option Int := if Cnt n e ∧ e.of = j ∧ (b.all fun u => decide (u < e.tag)) = true then some e.tag else b
def best (n : Int) (l : List Ev) (j : Int) : Option Int := l.foldl (one n j) none
theorem best_succ {n j : Int} {l : List Ev} {k : Nat} {e : Ev} (he : l[k]? = some e) : best n (l.take (k + 1)) j = one n j (best n (l.take k) j) e := by
  unfold best
  rw [List.take_add_one, he, Option.toList_some, List.foldl_append]
  rfl
theorem one_bad {n j : Int} {b : Option Int} {e : Ev} (h : ¬ Cnt n e) : one n j b e = b := by
  unfold one
  rw [if_neg (fun h' => h h'.1)]
theorem one_far {n j : Int} {b : Option Int} {e : Ev} (h : e.of ≠ j) : one n j b e = b := by
  unfold one
  rw [if_neg (fun h' => h h'.2.1)]
theorem best_ok (n : Int) (l : List Ev) (j t : Int) : best n l j = some t → 0 ≤ t ∧ t ≤ 1048576 := by
  unfold best
  suffices ∀ b : Option Int, (∀ u, b = some u → 0 ≤ u ∧ u ≤ 1048576) → ∀ u, l.foldl (one n j) b = some u → 0 ≤ u ∧ u ≤ 1048576 from this none (fun u h => by cases h) t
  induction l with
  | nil => exact fun b h u hu => h u hu
  | cons e l ih =>
    intro b h u hu
    rw [List.foldl_cons] at hu
    refine ih _ (fun v hv => ?_) u hu
    unfold one at hv
    split at hv
    · rename_i hc
      obtain ⟨⟨_, _, _, hs⟩, _⟩ := hc
      simp only [Option.some.injEq] at hv
      subst hv
      exact ⟨hs.2.2.1, hs.2.2.2⟩
    · exact h v hv
/-- A node's three cells. -/
def nc (j : Int) (b : Option Int) : List Value := match b with | none => [iv 0, iv 0, iv 0] | some t => [iv j, iv t, iv 2]
def Bst (cs : Array Value) (n : Nat) (f : Nat → Option Int) : Prop := cs.size = n * 3 ∧ ∀ j, j < n → ∀ q, q < 3 → cs[j * 3 + q]? = (nc j (f j))[q]?
theorem Bst.put {cs : Array Value} {n i : Nat} {f f' : Nat → Option Int} {t : Int} (h : Bst cs n f) (hi : i < n) (h1 : f' i = some t) (h2 : ∀ j, j ≠ i → f' j = f j) :
    Bst (((cs.setIfInBounds (i * 3) (iv i)).setIfInBounds (i * 3 + 1) (iv t)).setIfInBounds (i * 3 + 2) (iv 2)) n f' := by
  obtain ⟨hs, hc⟩ := h
  refine ⟨by simpa using hs, fun j hj q hq => ?_⟩
  by_cases hij : j = i
  · subst hij
    rw [h1]
    obtain ⟨z0, z1, z2⟩ : j * 3 < cs.size ∧ j * 3 + 1 < cs.size ∧ j * 3 + 2 < cs.size := ⟨by omega, by omega, by omega⟩
    rcases (show q = 0 ∨ q = 1 ∨ q = 2 by omega) with rfl | rfl | rfl <;> simp [nc, z0, z1, z2]
  · rw [h2 j hij, ← hc j hj q hq]
    simp only [Array.getElem?_setIfInBounds, Array.size_setIfInBounds]
    rw [if_neg (by omega), if_neg (by omega), if_neg (by omega)]
theorem Bst.same {cs : Array Value} {n : Nat} {f f' : Nat → Option Int} (h : Bst cs n f) (h2 : ∀ j, f' j = f j) : Bst cs n f' := by
  rw [show f' = f from funext h2]
  exact h
theorem made_bst (n : Nat) (f : Nat → Option Int) (hf : ∀ j, f j = none) : Bst (madeCells (Value.agg #[.int .i64 0, .int .i64 0, .int .i64 0]).cells (n * 3)) n f := by
  refine ⟨size_madeCells _ _, fun j hj q hq => ?_⟩
  rw [hf j]
  have hlt : j * 3 + q < n * 3 := by omega
  have hm : (j * 3 + q) % 3 = q := by omega
  simp only [madeCells, Value.cells, Array.getElem?_map, Array.getElem?_range, hlt, if_true, Option.map_some]
  rcases (show q = 0 ∨ q = 1 ∨ q = 2 by omega) with rfl | rfl | rfl <;> simp [hm, nc]
/-- The suspicions, by rising nodes, below node k. -/
def dl (n : Int) (l : List Ev) (k : Nat) : List (Int × Int × Int) := (List.range k).filterMap fun (j : Nat) => (best n l (j : Int)).map fun t => ((j : Int), t, (2 : Int))
def dcs (d : List (Int × Int × Int)) : List Value := d.flatMap fun x => [.int .i64 x.1, .int .i64 x.2.1, .int .i64 x.2.2]
theorem dl_none {n : Int} {l : List Ev} {k : Nat} (h : best n l (k : Int) = none) : dl n l (k + 1) = dl n l k := by simp [dl, List.range_succ, List.filterMap_append, h]
theorem dl_some {n : Int} {l : List Ev} {k : Nat} {t : Int} (h : best n l (k : Int) = some t) : dl n l (k + 1) = dl n l k ++ [((k : Int), t, (2 : Int))] := by simp [dl, List.range_succ, List.filterMap_append, h]
theorem dl_len (n : Int) (l : List Ev) (k : Nat) : (dl n l k).length ≤ k := by
  have := List.length_filterMap_le (fun j : Nat => (best n l (j : Int)).map fun t => ((j : Int), t, (2 : Int))) (List.range k)
  simpa [dl] using this
theorem own_low {w : World} {base base' n sz : Nat} {e : TypeId} {v : Value} {xs : List Value} (h : w.ownsRow base e sz v n xs) (hb : base' ≤ base) : w.ownsRow base' e sz v n xs := by
  refine ⟨h.1, ?_⟩
  rcases h.2 with h1 | ⟨g, cap, cur, h1, h2, h3⟩
  · exact .inl h1
  · exact .inr ⟨g, cap, cur, h1, by omega, h3⟩
theorem dcs_succ (d : List (Int × Int × Int)) (a b c : Int) : dcs (d ++ [(a, b, c)]) = dcs d ++ [.int .i64 a, .int .i64 b, .int .i64 c] := by simp [dcs]
end Go.Ear
namespace Go.Proofs.YteemkceceaabkaaGreat
open Go.RowKit Go.Ear
set_option maxHeartbeats 4000000
set_option maxRecDepth 100000
set_option linter.unusedSimpArgs false
set_option linter.unusedVariables false

/-- The program's first loop is through: the greatest of every node. -/
theorem doubts_good (n : Nat) (A : Option Addr) (c : Nat) (l : List Ev) (w : World) (h1 : 1 ≤ n) (h2 : n ≤ 100) (hE : EvsAt w A c l) (hl : l.length ≤ 10000) :
    Calls Tryz.prog 11 #[i64 n, .slice A l.length c] w (ListTo 81 3 (dl n l n).length (dcs (dl n l n)) 0 w) := by
  have hn := fun W => isNodes_any n W
  simp only [show (1 : Int) ≤ n ∧ (n : Int) ≤ 100 by omega, and_self, decide_true] at hn
  obtain ⟨i0, hi0, hz0, hz1, hz2⟩ := info_parts infoNotices
  have hmk := run_makeSlice (P := Tryz.prog) w 33 81 i0 _ Tryz.underlying33 hi0 hz0 .i64 .i64 n n (by omega) (by omega) (by rw [hz1]; omega) (by rw [hz2]; omega) (by omega)
  simp only [hz1, Int.toNat_natCast] at hmk
  have hZ := made_bst n (fun _ => none) (fun _ => rfl)
  generalize madeCells (Value.agg #[.int .i64 0, .int .i64 0, .int .i64 0]).cells (n * 3) = Z at hmk hZ
  generalize hlen : l.length = len at *
  have HLEN := Lib.hid hlen
  have HZ := Lib.hid hZ
  clear hlen hZ
  have hva := fun of tag W => valid_any n of tag W (by omega) (by omega)
  go_enter Tryz.func11, Tryz.ntmps11
  go_wp2_with fail
  refine (hn _).mono ?_
  rintro e w' ⟨rfl, hw⟩
  have hw := hw.symm
  subst hw
  go_wp2
  go_loopw [20] (fun i' wr => ∃ (k : Nat) (cs : Array Value), k ≤ len ∧ i' = .int .i64 k ∧ Chg Noth w wr ∧ wr.heap[w.heap.size]? = some (.cells cs 81 (0, 0)) ∧ Bst cs n (fun j => best n (l.take k) j)) (fun i' _ => len - (intOf i').toNat)
  case atStart =>
    refine ⟨0, Z, by omega, rfl, (by repeat (with_reducible first | exact Chg.refl _ _ | refine chg_m ?_ _ | refine chg_g ?_ _ | refine chg_alloc ?_ _ | refine chg_drew ?_ | refine chg_drewN ?_ _ | refine chg_set ?_ _ _ _)), heap_alloc_new _ _, HZ.out.same (fun j => by rfl)⟩
  case round =>
    obtain ⟨k, cs, hk, rfl, hc, hb0, hS⟩ := hrel
    have jq : Old w.heap.size wr := ⟨(Array.getElem?_eq_some_iff.1 hb0).1⟩
    by_cases hlt : k < len
    · obtain ⟨e, he⟩ : ∃ e, l[k]? = some e := ⟨_, List.getElem?_eq_getElem (by rw [HLEN.out]; exact hlt)⟩
      obtain ⟨b, off, rfl, hb, hcell⟩ := (hE.grow hc).at he
      have hbs := fun j => best_succ (n := n) (j := j) he
      have jb : Old b wr := ⟨hb⟩
      obtain ⟨kind, node, life, round, tag, of, dur, ⟨ha, hb', hc', hd⟩, ⟨ua, ub, uc, ud⟩⟩ := e
      have e0 := hcell 0 (iv kind) rfl
      have e1 := hcell 1 (iv node) rfl
      have e2 := hcell 2 (iv life) rfl
      have e3 := hcell 3 (iv round) rfl
      have e4 := hcell 4 (iv tag) rfl
      have e5 := hcell 5 (iv of) rfl
      have e6 := hcell 6 (iv dur) rfl
      have e7 := hcell 7 (u32v ha) rfl
      have e8 := hcell 8 (u32v hb') rfl
      have e9 := hcell 9 (u32v hc') rfl
      have e10 := hcell 10 (u32v hd) rfl
      have e11 := hcell 11 (u32v ua) rfl
      have e12 := hcell 12 (u32v ub) rfl
      have e13 := hcell 13 (u32v uc) rfl
      have e14 := hcell 14 (u32v ud) rfl
      simp only [Nat.add_zero] at e0
      have HC := Lib.hid hc
      have HB := Lib.hid hb0
      have HS := Lib.hid hS
      have HBS := Lib.hid hbs
      have FZ : ∀ i, wr.frozen? ⟨w.heap.size, i, none⟩ = false := fun i => frozen_of_row _ _ _ _ _ hb0
      have CL : ∀ i, wr.cell? ⟨w.heap.size, i, none⟩ = cs[i]? := fun i => cell_of_row _ _ _ _ _ _ hb0
      have HFZ := Lib.hid FZ
      have HCL := Lib.hid CL
      clear hc hcell he hbs hb0 FZ CL hS
      by_cases hgo : Cnt n ⟨kind, node, life, round, tag, of, dur, ⟨ha, hb', hc', hd⟩, ⟨ua, ub, uc, ud⟩⟩
      · obtain ⟨hk4, hn0, hn1, hsus⟩ := id hgo
        simp only at hk4 hn0 hn1 hsus
        subst hk4
        obtain ⟨i, rfl⟩ := Int.eq_ofNat_of_zero_le hsus.1
        have hin : i < n := by have := hsus.2.1; omega
        have y0 : decide (node < 0) = false := decide_eq_false (by omega)
        have y1 : decide ((n : Int) ≤ node) = false := decide_eq_false (by omega)
        have y2 : decide (Sus n i tag) = true := decide_eq_true hsus
        have hts := hsus.2.2
        obtain ⟨bb, hbb⟩ : ∃ bb, best n (l.take k) (i : Int) = bb := ⟨_, rfl⟩
        have hcs := HS.out.2 i hin
        simp only [hbb] at hcs
        have hva' := hva i tag
        rw [y2] at hva'
        have q3 : wr.frozen? ⟨w.heap.size, i * 3, none⟩ = false := HFZ.out _
        have q4 : wr.frozen? ⟨w.heap.size, i * 3 + 1, none⟩ = false := HFZ.out _
        have q5 : wr.frozen? ⟨w.heap.size, i * 3 + 2, none⟩ = false := HFZ.out _
        have HGO := Lib.hid hgo
        have HSU := Lib.hid hsus
        clear hgo hsus hn0 hn1 y2 hva
        cases bb with
        | none =>
          have q0 : wr.cell? ⟨w.heap.size, i * 3, none⟩ = some (iv 0) := (HCL.out _).trans (hcs 0 (by omega))
          have q1 : wr.cell? ⟨w.heap.size, i * 3 + 1, none⟩ = some (iv 0) := (HCL.out _).trans (hcs 1 (by omega))
          have q2 : wr.cell? ⟨w.heap.size, i * 3 + 2, none⟩ = some (iv 0) := (HCL.out _).trans (hcs 2 (by omega))
          have k0 : HasCell wr w.heap.size (i * 3) := ⟨by rw [q0]; rfl⟩
          have k1 : HasCell wr w.heap.size (i * 3 + 1) := ⟨by rw [q1]; rfl⟩
          have k2 : HasCell wr w.heap.size (i * 3 + 2) := ⟨by rw [q2]; rfl⟩
          have HBB := Lib.hid hbb
          clear hcs hbb
          go_wp2_with (go_at_call 25; refine (hva' _).mono ?_; rintro e w' ⟨rfl, g, rfl⟩)
          refine wp_region_grows (by kernel_rfl) (by kernel_rfl) ?_
          repeat (go_big_quiet_step ((fail)))
          refine wpQuiet_nil ?_
          rintro _ ⟨gg, rfl⟩
          go_wp2
          have hS := HS.out.put (f' := fun j => best n (l.take (k + 1)) j) hin (t := tag) ((HBS.out i).trans (by rw [HBB.out]; unfold one; rw [if_pos ⟨HGO.out, rfl, rfl⟩])) (fun j hj => (HBS.out j).trans (one_far (by simp only; omega)))
          have hB2 : (Muts.join g gg).w.heap[w.heap.size]? = some (.cells cs 81 (0, 0)) := ((show Chg Noth wr (Muts.join g gg).w from (by repeat (with_reducible first | exact Chg.refl _ _ | refine chg_m ?_ _ | refine chg_g ?_ _ | refine chg_alloc ?_ _ | refine chg_drew ?_ | refine chg_drewN ?_ _ | refine chg_set ?_ _ _ _))).block _ (Array.getElem?_eq_some_iff.1 HB.out).1 (fun e => e)).trans HB.out
          have hS1 := heap_setCell_same _ _ (i * 3) _ _ (iv i) hB2
          have hS2 := heap_setCell_same _ _ (i * 3 + 1) _ _ (iv tag) hS1
          have hS3 := heap_setCell_same _ _ (i * 3 + 2) _ _ (iv 2) hS2
          refine ⟨⟨k + 1, _, by omega, by simp, (by repeat (with_reducible first | exact HC.out | exact Chg.refl _ _ | refine chg_m ?_ _ | refine chg_g ?_ _ | refine chg_alloc ?_ _ | refine chg_drew ?_ | refine chg_drewN ?_ _ | refine chg_set ?_ _ _ _)), hS3, hS⟩, by simp [intOf]; omega⟩
        | some t =>
          have q0 : wr.cell? ⟨w.heap.size, i * 3, none⟩ = some (iv i) := (HCL.out _).trans (hcs 0 (by omega))
          have q1 : wr.cell? ⟨w.heap.size, i * 3 + 1, none⟩ = some (iv t) := (HCL.out _).trans (hcs 1 (by omega))
          have q2 : wr.cell? ⟨w.heap.size, i * 3 + 2, none⟩ = some (iv 2) := (HCL.out _).trans (hcs 2 (by omega))
          have k0 : HasCell wr w.heap.size (i * 3) := ⟨by rw [q0]; rfl⟩
          have k1 : HasCell wr w.heap.size (i * 3 + 1) := ⟨by rw [q1]; rfl⟩
          have k2 : HasCell wr w.heap.size (i * 3 + 2) := ⟨by rw [q2]; rfl⟩
          have htb := best_ok _ _ _ _ hbb
          have hbt := fun W => beats_any i tag t W hts.1 hts.2 htb.1 htb.2
          have HBB := Lib.hid hbb
          clear hcs hbb htb
          by_cases htt : t < tag
          · simp only [htt, decide_true] at hbt
            go_wp2_with (go_at_call 25; refine (hva' _).mono ?_; rintro e w' ⟨rfl, g, rfl⟩)
            refine wp_region_grows (by kernel_rfl) (by kernel_rfl) ?_
            repeat (go_big_quiet_step ((go_at_call 26; exact grows_of (hbt _))))
            refine wpQuiet_nil ?_
            rintro _ ⟨gg, rfl⟩
            go_wp2
            have hS := HS.out.put (f' := fun j => best n (l.take (k + 1)) j) hin (t := tag) ((HBS.out i).trans (by rw [HBB.out]; unfold one; rw [if_pos ⟨HGO.out, rfl, by simpa using htt⟩])) (fun j hj => (HBS.out j).trans (one_far (by simp only; omega)))
            have hB2 : (Muts.join g gg).w.heap[w.heap.size]? = some (.cells cs 81 (0, 0)) := ((show Chg Noth wr (Muts.join g gg).w from (by repeat (with_reducible first | exact Chg.refl _ _ | refine chg_m ?_ _ | refine chg_g ?_ _ | refine chg_alloc ?_ _ | refine chg_drew ?_ | refine chg_drewN ?_ _ | refine chg_set ?_ _ _ _))).block _ (Array.getElem?_eq_some_iff.1 HB.out).1 (fun e => e)).trans HB.out
            have hS1 := heap_setCell_same _ _ (i * 3) _ _ (iv i) hB2
            have hS2 := heap_setCell_same _ _ (i * 3 + 1) _ _ (iv tag) hS1
            have hS3 := heap_setCell_same _ _ (i * 3 + 2) _ _ (iv 2) hS2
            refine ⟨⟨k + 1, _, by omega, by simp, (by repeat (with_reducible first | exact HC.out | exact Chg.refl _ _ | refine chg_m ?_ _ | refine chg_g ?_ _ | refine chg_alloc ?_ _ | refine chg_drew ?_ | refine chg_drewN ?_ _ | refine chg_set ?_ _ _ _)), hS3, hS⟩, by simp [intOf]; omega⟩
          · simp only [htt, decide_false] at hbt
            go_wp2_with (go_at_call 25; refine (hva' _).mono ?_; rintro e w' ⟨rfl, g, rfl⟩)
            refine wp_region_grows (by kernel_rfl) (by kernel_rfl) ?_
            repeat (go_big_quiet_step ((go_at_call 26; exact grows_of (hbt _))))
            refine wpQuiet_nil ?_
            rintro _ ⟨gg, rfl⟩
            go_wp2
            have HSAME : Hid (∀ j : Nat, best n (l.take (k + 1)) j = best n (l.take k) j) := Lib.hid (fun j => by
              by_cases hj : (j : Int) = i
              · rw [hj]
                refine (HBS.out i).trans ?_
                rw [HBB.out]
                unfold one
                rw [if_neg (fun h => by have := h.2.2; simp only [Option.all_some, decide_eq_true_eq] at this; omega)]
              · exact (HBS.out j).trans (one_far (fun h => hj h.symm)))
            refine ⟨⟨k + 1, cs, by omega, by simp, (by repeat (with_reducible first | exact HC.out | exact Chg.refl _ _ | refine chg_m ?_ _ | refine chg_g ?_ _ | refine chg_alloc ?_ _ | refine chg_drew ?_ | refine chg_drewN ?_ _ | refine chg_set ?_ _ _ _)), ((show Chg Noth wr _ from (by repeat (with_reducible first | exact Chg.refl _ _ | refine chg_m ?_ _ | refine chg_g ?_ _ | refine chg_alloc ?_ _ | refine chg_drew ?_ | refine chg_drewN ?_ _ | refine chg_set ?_ _ _ _))).block _ (Array.getElem?_eq_some_iff.1 HB.out).1 (fun e => e)).trans HB.out, HS.out.same HSAME.out⟩, by simp [intOf]; omega⟩
      · have hsame : ∀ j : Nat, best n (l.take (k + 1)) j = best n (l.take k) j := fun j => (HBS.out j).trans (one_bad hgo)
        have HSAME := Lib.hid hsame
        clear hsame
        rcases (show kind ≠ 4 ∨ (kind = 4 ∧ node < 0) ∨ (kind = 4 ∧ 0 ≤ node ∧ n ≤ node) ∨ (kind = 4 ∧ (0 ≤ node ∧ node < n) ∧ ¬ Sus n of tag) by
          unfold Cnt at hgo; simp only at hgo; by_cases h4 : kind = 4 <;> by_cases hs : Sus n of tag <;> simp only [h4, hs, true_and, and_true, not_true, not_false_eq_true, false_and, and_false, or_false, false_or, ne_eq] at hgo ⊢ <;> omega) with h | ⟨rfl, h⟩ | ⟨rfl, h, h'⟩ | ⟨rfl, ⟨h, h'⟩, h''⟩
        · have y1 : ((kind : Int) != 4) = true := by simpa using h
          clear h hgo
          go_wp2
          refine ⟨⟨k + 1, cs, by omega, by simp, (by repeat (with_reducible first | exact HC.out | exact Chg.refl _ _ | refine chg_m ?_ _ | refine chg_g ?_ _ | refine chg_alloc ?_ _ | refine chg_drew ?_ | refine chg_drewN ?_ _ | refine chg_set ?_ _ _ _)), ((show Chg Noth wr _ from (by repeat (with_reducible first | exact Chg.refl _ _ | refine chg_m ?_ _ | refine chg_g ?_ _ | refine chg_alloc ?_ _ | refine chg_drew ?_ | refine chg_drewN ?_ _ | refine chg_set ?_ _ _ _))).block _ (Array.getElem?_eq_some_iff.1 HB.out).1 (fun e => e)).trans HB.out, HS.out.same HSAME.out⟩, by simp [intOf]; omega⟩
        · have y1 : decide (node < 0) = true := decide_eq_true h
          clear h hgo
          go_wp2
          refine ⟨⟨k + 1, cs, by omega, by simp, (by repeat (with_reducible first | exact HC.out | exact Chg.refl _ _ | refine chg_m ?_ _ | refine chg_g ?_ _ | refine chg_alloc ?_ _ | refine chg_drew ?_ | refine chg_drewN ?_ _ | refine chg_set ?_ _ _ _)), ((show Chg Noth wr _ from (by repeat (with_reducible first | exact Chg.refl _ _ | refine chg_m ?_ _ | refine chg_g ?_ _ | refine chg_alloc ?_ _ | refine chg_drew ?_ | refine chg_drewN ?_ _ | refine chg_set ?_ _ _ _))).block _ (Array.getElem?_eq_some_iff.1 HB.out).1 (fun e => e)).trans HB.out, HS.out.same HSAME.out⟩, by simp [intOf]; omega⟩
        · have y1 : decide (node < 0) = false := decide_eq_false (by omega)
          have y2 : decide ((n : Int) ≤ node) = true := decide_eq_true h'
          clear h h' hgo
          go_wp2
          refine ⟨⟨k + 1, cs, by omega, by simp, (by repeat (with_reducible first | exact HC.out | exact Chg.refl _ _ | refine chg_m ?_ _ | refine chg_g ?_ _ | refine chg_alloc ?_ _ | refine chg_drew ?_ | refine chg_drewN ?_ _ | refine chg_set ?_ _ _ _)), ((show Chg Noth wr _ from (by repeat (with_reducible first | exact Chg.refl _ _ | refine chg_m ?_ _ | refine chg_g ?_ _ | refine chg_alloc ?_ _ | refine chg_drew ?_ | refine chg_drewN ?_ _ | refine chg_set ?_ _ _ _))).block _ (Array.getElem?_eq_some_iff.1 HB.out).1 (fun e => e)).trans HB.out, HS.out.same HSAME.out⟩, by simp [intOf]; omega⟩
        · have y1 : decide (node < 0) = false := decide_eq_false (by omega)
          have y2 : decide ((n : Int) ≤ node) = false := decide_eq_false (by omega)
          have hva' := hva of tag
          simp only [h'', decide_false] at hva'
          clear h h' h'' hgo hva
          go_wp2_with (go_at_call 25; refine (hva' _).mono ?_; rintro e w' ⟨rfl, g, rfl⟩)
          refine ⟨⟨k + 1, cs, by omega, by simp, (by repeat (with_reducible first | exact HC.out | exact Chg.refl _ _ | refine chg_m ?_ _ | refine chg_g ?_ _ | refine chg_alloc ?_ _ | refine chg_drew ?_ | refine chg_drewN ?_ _ | refine chg_set ?_ _ _ _)), ((show Chg Noth wr _ from (by repeat (with_reducible first | exact Chg.refl _ _ | refine chg_m ?_ _ | refine chg_g ?_ _ | refine chg_alloc ?_ _ | refine chg_drew ?_ | refine chg_drewN ?_ _ | refine chg_set ?_ _ _ _))).block _ (Array.getElem?_eq_some_iff.1 HB.out).1 (fun e => e)).trans HB.out, HS.out.same HSAME.out⟩, by simp [intOf]; omega⟩
    · obtain rfl : k = len := by omega
      have hS2 := hS.same (f' := fun j => best n l j) (fun j => by rw [List.take_of_length_le (by rw [HLEN.out]; exact Nat.le_refl _)])
      have hsz := (Array.getElem?_eq_some_iff.1 hb0).1
      have HC := Lib.hid hc
      have HB := Lib.hid hb0
      have HS := Lib.hid hS2
      have HSZ := Lib.hid hsz
      clear hc hb0 hS hS2 hsz
      go_wp2
      go_loopw [10, 73] (fun l' i' wr2 => ∃ (j : Nat), j ≤ n ∧ i' = .int .i64 j ∧ Chg Noth w wr2 ∧ wr2.heap[w.heap.size]? = some (.cells cs 81 (0, 0)) ∧ wr2.ownsRow (w.heap.size + 1) 81 3 l' (dl n l j).length (dcs (dl n l j))) (fun _ i' _ => n - (intOf i').toNat)
      case atStart => exact ⟨0, by omega, rfl, (by repeat (with_reducible first | exact HC.out | exact Chg.refl _ _ | refine chg_m ?_ _ | refine chg_g ?_ _ | refine chg_alloc ?_ _ | refine chg_drew ?_ | refine chg_drewN ?_ _ | refine chg_set ?_ _ _ _)), HB.out, World.ownsRow_nil _ _ _ _⟩
      case round =>
        obtain ⟨j, hj, rfl, hc2, hb2, hown⟩ := hrel
        obtain ⟨A7, c7, rfl⟩ := own_shape hown
        have jq2 : Old w.heap.size wr := ⟨(Array.getElem?_eq_some_iff.1 hb2).1⟩
        have hsz2 := (Array.getElem?_eq_some_iff.1 hb2).1
        by_cases hlt : j < n
        · obtain ⟨bb, hbb⟩ : ∃ bb, best n l (j : Int) = bb := ⟨_, rfl⟩
          have hcs := HS.out.2 j hlt
          simp only [hbb] at hcs
          have CL : ∀ i, wr.cell? ⟨w.heap.size, i, none⟩ = cs[i]? := fun i => cell_of_row _ _ _ _ _ _ hb2
          have HC2 := Lib.hid hc2
          have HB2 := Lib.hid hb2
          clear hc2 hb2
          cases bb with
          | none =>
            have q0 : wr.cell? ⟨w.heap.size, j * 3, none⟩ = some (iv 0) := (CL _).trans (hcs 0 (by omega))
            have q1 : wr.cell? ⟨w.heap.size, j * 3 + 1, none⟩ = some (iv 0) := (CL _).trans (hcs 1 (by omega))
            have q2 : wr.cell? ⟨w.heap.size, j * 3 + 2, none⟩ = some (iv 0) := (CL _).trans (hcs 2 (by omega))
            have hdn := dl_none hbb
            generalize dl n l j = d at hown hdn ⊢
            have HO := Lib.hid hown
            have HDN := Lib.hid hdn
            clear hown CL hcs hbb hsz2 hdn
            go_wp2
            refine ⟨⟨j + 1, by omega, by simp, (by repeat (with_reducible first | exact HC2.out | exact Chg.refl _ _ | refine chg_m ?_ _ | refine chg_g ?_ _ | refine chg_alloc ?_ _ | refine chg_drew ?_ | refine chg_drewN ?_ _ | refine chg_set ?_ _ _ _)), ((show Chg Noth wr _ from (by repeat (with_reducible first | exact Chg.refl _ _ | refine chg_m ?_ _ | refine chg_g ?_ _ | refine chg_alloc ?_ _ | refine chg_drew ?_ | refine chg_drewN ?_ _ | refine chg_set ?_ _ _ _))).block _ (Array.getElem?_eq_some_iff.1 HB2.out).1 (fun e => e)).trans HB2.out, by rw [HDN.out]; exact own_chg (F := Noth) HO.out (by repeat (with_reducible first | exact Chg.refl _ _ | refine chg_m ?_ _ | refine chg_g ?_ _ | refine chg_alloc ?_ _ | refine chg_drew ?_ | refine chg_drewN ?_ _ | refine chg_set ?_ _ _ _)) fun _ _ e => e⟩, by simp [intOf]; omega⟩
          | some t =>
            have q0 : wr.cell? ⟨w.heap.size, j * 3, none⟩ = some (iv j) := (CL _).trans (hcs 0 (by omega))
            have q1 : wr.cell? ⟨w.heap.size, j * 3 + 1, none⟩ = some (iv t) := (CL _).trans (hcs 1 (by omega))
            have q2 : wr.cell? ⟨w.heap.size, j * 3 + 2, none⟩ = some (iv 2) := (CL _).trans (hcs 2 (by omega))
            have hds := dl_some hbb
            have hql := dl_len n l j
            generalize dl n l j = d at hown hds hql ⊢
            generalize hq : d.length = q at hown hql ⊢
            have HDS := Lib.hid (And.intro hds hq)
            have HO := Lib.hid hown
            have HSZ2 := Lib.hid hsz2
            clear CL hcs hbb hds hq hown hsz2
            go_wp2_with (at_builtin; (refine wpList_append_own _ rfl _ _ 33 rfl (w.heap.size + 1) 81 i0 _ 3 24 Tryz.underlying33 hi0 hz0 hz1 hz2 rfl (by decide) (.slice A7 q c7) q (dcs d) rfl (own_chg (F := Noth) HO.out (by repeat (with_reducible first | exact Chg.refl _ _ | refine chg_m ?_ _ | refine chg_g ?_ _ | refine chg_alloc ?_ _ | refine chg_drew ?_ | refine chg_drewN ?_ _ | refine chg_set ?_ _ _ _)) fun _ _ e => e) ⟨_, 0, none⟩ 1 1 [.int .i64 (j : Int), .int .i64 t, .int .i64 2] rfl rfl (World.news_of_block (cs := #[.int .i64 (j : Int), .int .i64 t, .int .i64 2]) (by exact heap_alloc_hs _ _ _)) (by intro u hu; simp at hu; rcases hu with rfl | rfl | rfl <;> rfl) (by simp only [maxLen]; omega) (by have := HSZ2.out; omega) (by have := HSZ2.out; simp; omega) ?_); intro v1 w1 hown1 hg1 _; obtain ⟨A9, c9, rfl⟩ := own_shape hown1)
            have hc1 : Chg Noth w w1 := (show Chg Noth w _ from (by repeat (with_reducible first | exact HC2.out | exact Chg.refl _ _ | refine chg_m ?_ _ | refine chg_g ?_ _ | refine chg_alloc ?_ _ | refine chg_drew ?_ | refine chg_drewN ?_ _ | refine chg_set ?_ _ _ _))).trans (Chg.of_grown hg1) fun x hx e => by have := (HO.out.lt x e).1; omega
            have hb3 : w1.heap[w.heap.size]? = some (.cells cs 81 (0, 0)) := by
              refine ((Chg.of_grown hg1).block _ ?_ (fun e => ?_)).trans (((show Chg Noth wr _ from (by repeat (with_reducible first | exact Chg.refl _ _ | refine chg_m ?_ _ | refine chg_g ?_ _ | refine chg_alloc ?_ _ | refine chg_drew ?_ | refine chg_drewN ?_ _ | refine chg_set ?_ _ _ _))).block _ HSZ2.out (fun e => e)).trans HB2.out)
              · have := HSZ2.out
                simp
                omega
              · have := (HO.out.lt _ e).1
                omega
            exact ⟨⟨j + 1, by omega, by simp, hc1, hb3, by rw [HDS.out.1, dcs_succ, List.length_append, HDS.out.2]; exact hown1⟩, by simp [intOf]; omega⟩
        · obtain rfl : j = n := by omega
          have HO := Lib.hid hown
          have HC2 := Lib.hid hc2
          clear hown hc2 hb2
          generalize (dl j l j).length = q at *
          go_wp2
          go_ret2
          exact ⟨_, _, rfl, own_low HO.out (by omega), muts_ex HC2.out⟩
end Go.Proofs.YteemkceceaabkaaGreat
