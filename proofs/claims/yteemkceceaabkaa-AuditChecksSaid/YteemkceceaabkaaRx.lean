/- A hundred bools, one for each id. -/
import Derived.Test.YteemkceceaabkaaSx
import Derived.Deep.MidRow
import Derived.Laws.Rows
namespace Go.Ear
open Go.RowKit
/-- A row of bools in cells. -/
def rowc (p : Nat → Bool) : Array Value := ((List.range 100).map fun i => Value.bool (p i)).toArray
theorem rowc_size (p : Nat → Bool) : (rowc p).size = 100 := by simp [rowc]
theorem rowc_get (p : Nat → Bool) {i : Nat} (h : i < 100) : (rowc p)[i]? = some (.bool (p i)) := by
  simp [rowc, List.getElem?_range h]
theorem rowc_set (p : Nat → Bool) (i : Nat) (b : Bool) (h : i < 100) : (rowc p).setIfInBounds i (.bool b) = rowc (fun j => if j = i then b else p j) := by
  refine Array.ext_getElem? fun j => ?_
  rw [Array.getElem?_setIfInBounds, rowc_size]
  by_cases hj : j < 100
  · rw [rowc_get _ hj, rowc_get _ hj]
    by_cases e : i = j
    · subst e
      simp [h]
    · rw [if_neg e, if_neg (fun h => e h.symm)]
  · have h1 : (rowc p)[j]? = none := by rw [Array.getElem?_eq_none]; rw [rowc_size]; omega
    have h2 : (rowc fun j => if j = i then b else p j)[j]? = none := by rw [Array.getElem?_eq_none]; rw [rowc_size]; omega
    rw [h1, h2, if_neg (by omega)]
theorem rowc_congr {p q : Nat → Bool} (h : ∀ i, i < 100 → p i = q i) : rowc p = rowc q := by
  unfold rowc
  congr 1
  exact List.map_congr_left fun i hi => by rw [h i (List.mem_range.1 hi)]
theorem rowc_one (p : Nat → Bool) : (rowc p).all (·.oneCell') = true := by
  simp only [rowc, List.all_toArray, List.all_map, List.all_eq_true]
  intro i _
  rfl
theorem bit_test (n r : Nat) (hn : n < 4294967296) : (bits .and .u32 ((n : Int) / 2 ^ r) 1 == 1) = n.testBit r := by
  rw [show (n : Int) / 2 ^ r = ((n / 2 ^ r : Nat) : Int) by simp, show (1 : Int) = ((1 : Nat) : Int) from rfl, st_and (Nat.lt_of_le_of_lt (Nat.div_le_self _ _) hn) (by omega)]
  have : n / 2 ^ r &&& 1 = n / 2 ^ r % 2 := Nat.and_one_is_mod _
  rw [this, Nat.testBit_eq_decide_div_mod_eq, Bool.eq_iff_iff]
  generalize n / 2 ^ r = k
  simp
  omega
theorem there_of_row {w : World} {b n : Nat} {z : Array Value} {t : TypeId} (h : w.heap[b]? = some (.cells z t (0, 0))) (hn : z.size = n) : w.there b 0 n := fun j hj => by
  rw [Nat.zero_add]
  exact ⟨by rw [cell_of_row _ _ _ _ _ _ h, Array.getElem?_eq_getElem (by omega)]; rfl, frozen_of_row _ _ _ _ _ h⟩
theorem chg_cells {F : Nat → Prop} {a : World} (b : Nat) : ∀ (vs : List Value) (o : Nat) {w : World}, Chg F a w → (F b ∨ a.heap.size ≤ b) → Chg F a (w.setCells b o vs)
  | [], o, w, h, _ => h
  | v :: vs, o, w, h, hb => by
    have i : May b F a := ⟨hb⟩
    exact chg_cells b vs (o + 1) (chg_set h b o v) hb
theorem results_cell_mid {P : Program} {fn : Func} {p : Tmp} {ty : TypeId} (h : fn.results = #[.cell p ty]) (tmps : Array Value) (w : World) (b : Nat) (cs : List Value) (d : TypeDesc)
    (hp : tmps.getD p undef = .pointer (some ⟨b, 0, none⟩)) (hc : w.rangeAt b 0 cs) (hu : P.underlying ty = some d) (hd : d.isRow = true) (hi : (P.info? ty).map (·.size) = some cs.length) :
    (results fn tmps).run P w = .ok (.agg cs.toArray) w := by
  have hp' : tmps[p]?.getD undef = .pointer (some ⟨b, 0, none⟩) := by simpa using hp
  simp [results, h, hp', asAddr, run_loadVar_mid w b 0 ty cs d hc hu hd hi]
/-- A number below 128 by its word and its bit. -/
theorem word_bit (q : Nat) (h : q < 128) : ∃ a r : Nat, q = a * 32 + r ∧ r < 32 ∧ a < 4 ∧ (q : Int).tdiv 32 = (a : Int) ∧ (q : Int).tmod 32 = (r : Int) ∧ (q : Int) / 32 = (a : Int) ∧ (q : Int) % 32 = (r : Int) ∧ (0 : Int) ≤ r ∧ (0 : Int) ≤ a ∧ (a : Int) < 4 := by
  refine ⟨q / 32, q % 32, by omega, by omega, by omega, ?_, ?_, by omega, by omega, by omega, by omega, by omega⟩
  · rw [Int.tdiv_eq_ediv_of_nonneg (by omega)]; omega
  · rw [Int.tmod_eq_emod_of_nonneg (by omega)]; omega
end Go.Ear
namespace Go.Proofs.Yteemkceceaabkaa
open Go.RowKit Go.Ear
theorem zeroRow : Try.zeroCells105 = rowc (fun _ => false) := by kernel_rfl
theorem infoRow : (Try.prog.info? 105).map (·.size) = some 100 := by kernel_rfl
end Go.Proofs.Yteemkceceaabkaa
/- Sets as rows of bools: Row, Within, Has. -/
namespace Go.Proofs.Yteemkceceaabkaa
open Go.RowKit Go.Ear
set_option maxHeartbeats 2000000
set_option maxRecDepth 100000
set_option linter.unusedSimpArgs false

theorem row_any (s : St) (hs : s.ok) (w : World) : Calls Try.prog 57 #[s.v] w (Gr (.agg (rowc s.bit)) w) := by
  have hz := zeroRow
  have hir := infoRow
  have HZ := Lib.hid hz
  clear hz
  go_enter Try.func57, Try.ntmps57
  go_wp2
  go_loopw [4] (fun i' wr => ∃ q : Nat, q ≤ 100 ∧ i' = .int .i64 q ∧ Chg Noth w wr ∧ wr.heap[w.heap.size]? = some (.cells s.cells 74 (0, 0)) ∧ (∃ z, z.size = 100 ∧ wr.heap[w.heap.size + 1]? = some (.cells z 105 (0, 0))) ∧ wr.heap[w.heap.size + 1 + 1]? = some (.cells (rowc fun j => decide (j < q) && s.bit j) 105 (0, 0))) (fun i' _ => 100 - (intOf i').toNat)
  case atStart =>
    refine ⟨0, by omega, rfl, (by repeat (with_reducible first | exact Chg.refl _ _ | refine chg_m ?_ _ | refine chg_g ?_ _ | refine chg_alloc ?_ _ | refine chg_drew ?_ | refine chg_drewN ?_ _ | refine chg_set ?_ _ _ _)), ?_, ⟨Try.zeroCells105, (by rw [HZ.out]; exact rowc_size _), ?_⟩, ?_⟩
    · rw [Below.heap_alloc _ _ _ (by simp <;> omega), Below.heap_alloc _ _ _ (by simp)]
      exact heap_alloc_new _ _
    · rw [Below.heap_alloc _ _ _ (by simp)]
      exact heap_hs _ _ _
    · rw [heap_hs _ _ _, HZ.out]
      simp
  case round =>
    obtain ⟨q, hq, rfl, hc, h0, ⟨z, hz, h1⟩, h2⟩ := hrel
    have j0 : Old w.heap.size wr := ⟨(Array.getElem?_eq_some_iff.1 h0).1⟩
    have j1 : Old (w.heap.size + 1) wr := ⟨(Array.getElem?_eq_some_iff.1 h1).1⟩
    have j2 : Old (w.heap.size + 1 + 1) wr := ⟨(Array.getElem?_eq_some_iff.1 h2).1⟩
    by_cases hlt : q < 100
    · obtain ⟨a, r, hqr, hr, ha, e1, e2, e3, e4, b1, b2, b3⟩ := word_bit q (by omega)
      have c0 : wr.cell? ⟨w.heap.size, a, none⟩ = some (u32v (s.get a)) := by rw [cell_of_row _ _ _ _ _ _ h0, St.cells_get _ ha]
      have c2 : wr.cell? ⟨w.heap.size + 1 + 1, q, none⟩ = some (.bool false) := by rw [cell_of_row _ _ _ _ _ _ h2, rowc_get _ hlt]; simp
      have f2 : wr.frozen? ⟨w.heap.size + 1 + 1, q, none⟩ = false := frozen_of_row _ _ _ _ _ h2
      have k2 : HasCell wr (w.heap.size + 1 + 1) q := ⟨by rw [cell_of_row _ _ _ _ _ _ h2, rowc_get _ hlt]; rfl⟩
      have hb := Lib.hid (bit_test (s.get a) r (St.ok_get hs a))
      have hbq : s.bit q = (s.get a).testBit r := by rw [hqr]; exact St.bit_at s a r hr
      have H := Lib.hid (And.intro h0 (And.intro h1 (And.intro h2 (And.intro hqr (And.intro hbq hc)))))
      clear h0 h1 h2 hqr hbq hc
      generalize s.get a = sa at *
      go_wp2
      rw [hb.out]
      obtain ⟨h0, h1, h2, hqr, hbq, hc⟩ := H.out
      refine ⟨⟨q + 1, by omega, by simp, (by repeat (with_reducible first | exact hc | exact Chg.refl _ _ | refine chg_m ?_ _ | refine chg_g ?_ _ | refine chg_alloc ?_ _ | refine chg_drew ?_ | refine chg_drewN ?_ _ | refine chg_set ?_ _ _ _)), ?_, ⟨z, hz, ?_⟩, ?_⟩, by simp [intOf]; omega⟩
      · rw [heap_set_far _ _ _ _ (by omega)]; exact h0
      · rw [heap_set_far _ _ _ _ (by omega)]; exact h1
      · rw [heap_setCell_same _ _ _ _ _ _ h2, rowc_set _ _ _ hlt]
        refine congrArg (fun c => some (Obj.cells c 105 (0, 0))) (rowc_congr fun j hj => ?_)
        by_cases e : j = q
        · subst e
          simp [hbq]
        · simp only [e, if_false]
          congr 1
          rw [decide_eq_decide]
          omega
    · obtain rfl : q = 100 := by omega
      have e2 : rowc (fun j => decide (j < 100) && s.bit j) = rowc s.bit := rowc_congr fun j hj => by simp [hj]
      rw [e2] at h2
      have ht : wr.there (w.heap.size + 1) 0 (rowc s.bit).size := there_of_row h1 (by rw [hz, rowc_size])
      have h1c := rowc_one s.bit
      have hi2 : (Try.prog.info? 105).map (·.size) = some (rowc s.bit).size := by rw [rowc_size]; exact hir
      have hra := World.rangeAt_setCells_same wr (w.heap.size + 1) 0 (rowc s.bit).toList (by rw [Array.length_toList]; exact ht)
      have HS := Lib.hid (And.intro hra (And.intro hi2 hc))
      clear hra hc h0 h1 hir e2
      generalize rowc s.bit = rc at *
      go_wp2_with (first
        | (refine wpList_load_row rfl 105 _ rfl (w.heap.size + 1 + 1) rfl 105 rc (0, 0) _ h2 Try.underlying105 rfl hi2 ?_)
        | (refine wpList_store_mid rfl 105 _ _ rfl (w.heap.size + 1) 0 rc rfl rfl ht hi2 h1c ?_))
      refine bodyPost_ret (v := .agg rc) ?_ rfl (gr_mk rfl (chg_cells _ _ _ HS.out.2.2 (.inr (by omega))))
      exact Eq.trans (results_cell_mid (P := Try.prog) (fn := Try.f57) rfl _ _ (w.heap.size + 1) rc.toList _ (by rfl) HS.out.1 Try.underlying105 rfl (by rw [Array.length_toList]; exact HS.out.2.1)) (by simp)

theorem withinR_any (s : St) (hs : s.ok) (n : Int) (w : World) : Calls Try.prog 45 #[s.v, i64 n] w (Gr (.bool (s.within n)) w) := by
  generalize hres : s.within n = res
  have HR := Lib.hid hres
  clear hres
  go_enter Try.func45, Try.ntmps45
  go_wp2
  go_loopw [5] (fun i' wr => ∃ q : Nat, q ≤ 128 ∧ i' = .int .i64 q ∧ Chg Noth w wr ∧ wr.heap[w.heap.size]? = some (.cells s.cells 74 (0, 0)) ∧ ∀ j, j < q → s.bit j = true → (j : Int) < n ∧ j < 100) (fun i' _ => 128 - (intOf i').toNat)
  case atStart =>
    exact ⟨0, by omega, rfl, (by repeat (with_reducible first | exact Chg.refl _ _ | refine chg_m ?_ _ | refine chg_g ?_ _ | refine chg_alloc ?_ _ | refine chg_drew ?_ | refine chg_drewN ?_ _ | refine chg_set ?_ _ _ _)), heap_hs _ _ _, fun j hj => by omega⟩
  case round =>
    obtain ⟨q, hq, rfl, hc, h0, hall⟩ := hrel
    have j0 : Old w.heap.size wr := ⟨(Array.getElem?_eq_some_iff.1 h0).1⟩
    have HA := Lib.hid hall
    clear hall
    by_cases hlt : q < 128
    · obtain ⟨a, r, hqr, hr, ha, e1, e2, e3, e4, b1, b2, b3⟩ := word_bit q (by omega)
      have c0 : wr.cell? ⟨w.heap.size, a, none⟩ = some (u32v (s.get a)) := by rw [cell_of_row _ _ _ _ _ _ h0, St.cells_get _ ha]
      have hbt := bit_test (s.get a) r (St.ok_get hs a)
      have hbq : s.bit q = (s.get a).testBit r := by rw [hqr]; exact St.bit_at s a r hr
      rw [← hbq] at hbt
      have H := Lib.hid (And.intro h0 (And.intro hqr (And.intro hbq hc)))
      clear h0 hqr hbq hc
      by_cases hb : s.bit q = true
      · rw [hb] at hbt
        generalize s.get a = sa at *
        by_cases h1 : n ≤ (q : Int)
        · have hF : res = false := by
            rw [← HR.out]
            refine Bool.eq_false_iff.2 fun h => ?_
            have := (St.within_iff s n).1 h q (by omega) hb
            omega
          have HF := Lib.hid hF
          have HB := Lib.hid hb
          clear hF hb
          go_wp2
          go_ret
          rw [HF.out]
          exact gr_mk rfl (by repeat (with_reducible first | exact H.out.2.2.2 | exact Chg.refl _ _ | refine chg_drew ?_))
        · by_cases h2 : 100 ≤ q
          · have hF : res = false := by
              rw [← HR.out]
              refine Bool.eq_false_iff.2 fun h => ?_
              have := (St.within_iff s n).1 h q (by omega) hb
              omega
            have HF := Lib.hid hF
            have HB := Lib.hid hb
            have h2' : (100 : Int) ≤ (q : Int) := by omega
            have h1' : (q : Int) < n := by omega
            clear hF hb h1 h2
            go_wp2
            go_ret
            rw [HF.out]
            exact gr_mk rfl (by repeat (with_reducible first | exact H.out.2.2.2 | exact Chg.refl _ _ | refine chg_drew ?_))
          · have HB := Lib.hid hb
            have h2' : (q : Int) < 100 := by omega
            have h1' : (q : Int) < n := by omega
            clear hb h1 h2
            go_wp2
            exact ⟨⟨q + 1, by omega, by simp, H.out.2.2.2, H.out.1, fun j hj hbj => by
              by_cases e : j = q
              · subst e; omega
              · exact HA.out j (by omega) hbj⟩, by simp [intOf]; omega⟩
      · have hb' : s.bit q = false := by simpa using hb
        rw [hb'] at hbt
        generalize s.get a = sa at *
        have HB := Lib.hid hb'
        clear hb hb'
        go_wp2
        exact ⟨⟨q + 1, by omega, by simp, H.out.2.2.2, H.out.1, fun j hj hbj => by
          by_cases e : j = q
          · subst e; rw [HB.out] at hbj; cases hbj
          · exact HA.out j (by omega) hbj⟩, by simp [intOf]; omega⟩
    · obtain rfl : q = 128 := by omega
      have hT : res = true := by
        rw [← HR.out]
        exact (St.within_iff s n).2 HA.out
      have HT := Lib.hid hT
      have HC := Lib.hid hc
      clear hT hc h0
      go_wp2
      go_ret
      rw [HT.out]
      exact gr_mk rfl (by repeat (with_reducible first | exact HC.out | exact Chg.refl _ _ | refine chg_drew ?_))

theorem hasR_any (s : St) (hs : s.ok) (i : Int) (w : World) : Calls Try.prog 47 #[s.v, i64 i] w (Gr (.bool (s.has i)) w) := by
  have hrow := fun W => row_any s hs W
  by_cases hi : 0 ≤ i ∧ i < 100
  · obtain ⟨m, rfl⟩ : ∃ m : Nat, i = m := ⟨i.toNat, by omega⟩
    have hm : m < 100 := by omega
    have hv : s.has m = s.bit m := by unfold St.has; rw [decide_eq_true (by omega)]; simp
    rw [hv]
    have hg := rowc_get s.bit hm
    have hix : ∀ W, (Instr.index 105 (.agg (rowc s.bit)) (i64 m)).run Try.prog W = .ok (.bool (s.bit m)) W := fun W => by
      have hsz : (sizeOf 4).run Try.prog W = .ok 1 W := by
        obtain ⟨i0, hi0⟩ := info_of_underlying Try.underlying4
        rw [run_sizeOf W hi0]
        rfl
      simp [Instr.index, asIntOf, run_underlying Try.underlying105, hsz, hm, part, isAgg, run_underlying Try.underlying4, hg]
    generalize rowc s.bit = rc at *
    generalize s.bit m = bv at *
    clear hv hg
    go_enter Try.func47, Try.ntmps47
    go_wp2_with fail
    refine (hrow _).mono ?_
    rintro e w' ⟨rfl, g, rfl⟩
    go_wp2_with fail
    go_ret
    exact gr_mk rfl (by repeat (with_reducible first | exact Chg.refl _ _ | refine chg_m ?_ _ | refine chg_g ?_ _ | refine chg_alloc ?_ _ | refine chg_drew ?_ | refine chg_drewN ?_ _ | refine chg_set ?_ _ _ _))
  · have hv : s.has i = false := by simp [St.has, hi]
    rw [hv]
    rcases (show i < 0 ∨ (0 ≤ i ∧ 100 ≤ i) by omega) with h | ⟨h1, h2⟩
    all_goals
      clear hi hv
      go_enter Try.func47, Try.ntmps47
      go_wp2
      go_ret
      exact gr_mk rfl (by repeat (with_reducible first | exact Chg.refl _ _ | refine chg_m ?_ _ | refine chg_g ?_ _ | refine chg_alloc ?_ _ | refine chg_drew ?_ | refine chg_drewN ?_ _ | refine chg_set ?_ _ _ _))
end Go.Proofs.Yteemkceceaabkaa
/- The set of a row of bools. -/
namespace Go.Ear
open Go.RowKit
/-- One bit more. -/
def St.put (s : St) (a : Nat) (v : Nat) : St := ⟨if a = 0 then v else s.a, if a = 1 then v else s.b, if a = 2 then v else s.c, if a = 3 then v else s.d⟩
theorem St.put_cells (s : St) {a : Nat} (v : Nat) (h : a < 4) : s.cells.setIfInBounds a (u32v v) = (s.put a v).cells := by
  rcases (show a = 0 ∨ a = 1 ∨ a = 2 ∨ a = 3 by omega) with rfl | rfl | rfl | rfl <;> simp [St.put, St.cells]
theorem St.put_get (s : St) (a v b : Nat) (hb : b < 4) : (s.put a v).get b = if b = a then v else s.get b := by
  rcases (show b = 0 ∨ b = 1 ∨ b = 2 ∨ b = 3 by omega) with rfl | rfl | rfl | rfl <;> simp only [St.put, St.get] <;> split <;> split <;> first | rfl | omega
/-- The first q bools of a row as a set. -/
def St.make (p : Nat → Bool) : Nat → St
  | 0 => ⟨0, 0, 0, 0⟩
  | q + 1 => if p q then (St.make p q).put (q / 32) ((St.make p q).get (q / 32) ||| 2 ^ (q % 32)) else St.make p q
theorem St.make_succ (p : Nat → Bool) (q : Nat) : St.make p (q + 1) = if p q then (St.make p q).put (q / 32) ((St.make p q).get (q / 32) ||| 2 ^ (q % 32)) else St.make p q := rfl
theorem or_lt {a r : Nat} (ha : a < 4294967296) (hr : r < 32) : a ||| 2 ^ r < 4294967296 := by
  have : 2 ^ r < 2 ^ 32 := Nat.pow_lt_pow_right (by decide) hr
  exact Nat.or_lt_two_pow (n := 32) ha this
theorem St.put_ok {s : St} {a v : Nat} (h : s.ok) (hv : v < 4294967296) : (s.put a v).ok := by
  obtain ⟨h1, h2, h3, h4⟩ := h
  refine ⟨?_, ?_, ?_, ?_⟩ <;> simp only [St.put] <;> split <;> assumption
theorem St.make_ok (p : Nat → Bool) : ∀ q, (St.make p q).ok
  | 0 => St.zero_ok
  | q + 1 => by
    rw [St.make_succ]
    split
    · exact St.put_ok (St.make_ok p q) (or_lt (St.ok_get (St.make_ok p q) _) (Nat.mod_lt _ (by decide)))
    · exact St.make_ok p q
theorem St.make_bit (p : Nat → Bool) : ∀ q, q ≤ 128 → ∀ i, i < 128 → (St.make p q).bit i = (decide (i < q) && p i)
  | 0, _, i, _ => by
    rw [show St.make p 0 = ⟨0, 0, 0, 0⟩ from rfl, St.bit_zero]
    simp
  | q + 1, hq, i, hi => by
    have ih := St.make_bit p q (by omega) i hi
    have key : (decide (i < q + 1) && p i) = ((decide (i = q) && p i) || (decide (i < q) && p i)) := by
      rcases Nat.lt_trichotomy i q with h | h | h
      · have e1 : i < q + 1 := by omega
        have e2 : ¬ i = q := by omega
        simp [h, e1, e2]
      · subst h; simp
      · have e1 : ¬ i < q + 1 := by omega
        have e2 : ¬ i = q := by omega
        have e3 : ¬ i < q := by omega
        simp [e1, e2, e3]
    rw [key, ← ih, St.make_succ]
    by_cases hp : p q = true
    · rw [if_pos hp]
      unfold St.bit
      rw [St.put_get _ _ _ _ (by omega)]
      by_cases hw : i / 32 = q / 32
      · rw [if_pos hw, Nat.testBit_or, hw, Bool.or_comm]
        congr 1
        rw [Nat.testBit_two_pow]
        by_cases e : i = q
        · subst e; simp [hp]
        · have : ¬ q % 32 = i % 32 := by omega
          simp [e, this]
      · rw [if_neg hw]
        have e : ¬ i = q := fun e => hw (by rw [e])
        simp [e]
    · rw [if_neg hp]
      by_cases e : i = q
      · subst e; simp [hp]
      · simp [e]
theorem st_or {a b : Nat} (ha : a < 4294967296) (hb : b < 4294967296) : bits .or .u32 (a : Int) (b : Int) = ((a ||| b : Nat) : Int) := (bits_nat .u32 32 (by decide) wraps_u32 a b ha hb).2
end Go.Ear
/- Sets as rows of bools: Make, Less. -/
namespace Go.Proofs.Yteemkceceaabkaa
open Go.RowKit Go.Ear
set_option maxHeartbeats 2000000
set_option maxRecDepth 100000
set_option linter.unusedSimpArgs false

theorem make_any (p : Nat → Bool) (w : World) : Calls Try.prog 64 #[.agg (rowc p)] w (Gr (St.make p 100).v w) := by
  have hir := infoRow
  go_enter Try.func64, Try.ntmps64
  go_wp2
  go_loopw [4] (fun i' wr => ∃ q : Nat, q ≤ 100 ∧ i' = .int .i64 q ∧ Chg Noth w wr ∧ wr.heap[w.heap.size]? = some (.cells (rowc p) 105 (0, 0)) ∧ (∃ z, z.size = 4 ∧ wr.heap[w.heap.size + 1]? = some (.cells z 74 (0, 0))) ∧ wr.heap[w.heap.size + 1 + 1]? = some (.cells (St.make p q).cells 74 (0, 0))) (fun i' _ => 100 - (intOf i').toNat)
  case atStart =>
    refine ⟨0, by omega, rfl, (by repeat (with_reducible first | exact Chg.refl _ _ | refine chg_m ?_ _ | refine chg_g ?_ _ | refine chg_alloc ?_ _ | refine chg_drew ?_ | refine chg_drewN ?_ _ | refine chg_set ?_ _ _ _)), ?_, ⟨#[u32v 0, u32v 0, u32v 0, u32v 0], rfl, ?_⟩, ?_⟩
    · rw [Below.heap_alloc _ _ _ (by simp <;> omega), Below.heap_alloc _ _ _ (by simp)]
      exact heap_alloc_new _ _
    · rw [Below.heap_alloc _ _ _ (by simp)]
      exact heap_hs _ _ _
    · exact heap_hs _ _ _
  case round =>
    obtain ⟨q, hq, rfl, hc, h0, ⟨z, hz, h1⟩, h2⟩ := hrel
    have j0 : Old w.heap.size wr := ⟨(Array.getElem?_eq_some_iff.1 h0).1⟩
    have j1 : Old (w.heap.size + 1) wr := ⟨(Array.getElem?_eq_some_iff.1 h1).1⟩
    have j2 : Old (w.heap.size + 1 + 1) wr := ⟨(Array.getElem?_eq_some_iff.1 h2).1⟩
    by_cases hlt : q < 100
    · obtain ⟨a, r, hqr, hr, ha, e1, e2, e3, e4, b1, b2, b3⟩ := word_bit q (by omega)
      have b4 : (r : Int) < 32 := by omega
      have c0 : wr.cell? ⟨w.heap.size, q, none⟩ = some (.bool (p q)) := by rw [cell_of_row _ _ _ _ _ _ h0, rowc_get _ hlt]
      have c2 : wr.cell? ⟨w.heap.size + 1 + 1, a, none⟩ = some (u32v ((St.make p q).get a)) := by rw [cell_of_row _ _ _ _ _ _ h2, St.cells_get _ ha]
      have f2 : wr.frozen? ⟨w.heap.size + 1 + 1, a, none⟩ = false := frozen_of_row _ _ _ _ _ h2
      have k2 : HasCell wr (w.heap.size + 1 + 1) a := ⟨by rw [c2]; rfl⟩
      have hok := St.ok_get (St.make_ok p q) a
      have hms := St.make_succ p q
      rw [show q / 32 = a by omega, show q % 32 = r by omega] at hms
      have hset := heap_setCell_same wr (w.heap.size + 1 + 1) a _ _ (u32v ((St.make p q).get a ||| 2 ^ r)) h2
      rw [St.put_cells _ _ ha] at hset
      have hp2 : 2 ^ r < 4294967296 := by
        have : 2 ^ r < 2 ^ 32 := Nat.pow_lt_pow_right (by decide) hr
        omega
      have hor := st_or hok hp2
      have H := Lib.hid (And.intro h0 (And.intro h1 (And.intro h2 (And.intro hset (And.intro hor hc)))))
      clear h0 h1 h2 hqr hc hset hor hp2
      have HM := Lib.hid hms
      clear hms
      generalize (St.make p q).get a = sa at *
      cases hp : p q
      · rw [hp] at c0 HM
        clear hp
        go_wp2
        obtain ⟨h0, h1, h2, hset, hor, hc⟩ := H.out
        have hm := HM.out
        simp only [Bool.false_eq_true, if_false] at hm
        exact ⟨⟨q + 1, by omega, by simp, hc, h0, ⟨z, hz, h1⟩, by rw [hm]; exact h2⟩, by simp [intOf]; omega⟩
      · rw [hp] at c0 HM
        clear hp
        go_wp2
        go_region
        go_wp2
        obtain ⟨h0, h1, h2, hset, hor, hc⟩ := H.out
        have hm := HM.out
        simp only [if_true] at hm
        have e5 : (2 : Int) ^ r % 4294967296 = ((2 ^ r : Nat) : Int) := by
          have h5 : 2 ^ r < 2 ^ 32 := Nat.pow_lt_pow_right (by decide) hr
          have h6 : ((2 ^ r : Nat) : Int) = (2 : Int) ^ r := by simp
          rw [← h6]
          generalize 2 ^ r = g at *
          omega
        rw [e5, hor]
        refine ⟨⟨q + 1, by omega, by simp, (by repeat (with_reducible first | exact hc | exact Chg.refl _ _ | refine chg_m ?_ _ | refine chg_g ?_ _ | refine chg_alloc ?_ _ | refine chg_drew ?_ | refine chg_drewN ?_ _ | refine chg_set ?_ _ _ _)), ?_, ⟨z, hz, ?_⟩, ?_⟩, by simp [intOf]; omega⟩
        · exact (heap_set_far _ _ _ _ (by omega)).trans h0
        · exact (heap_set_far _ _ _ _ (by omega)).trans h1
        · rw [hm]; exact hset
    · obtain rfl : q = 100 := by omega
      have c0 : wr.cell? ⟨w.heap.size + 1 + 1, 0, none⟩ = some (u32v (St.make p 100).a) := by rw [cell_of_row _ _ _ _ _ _ h2]; rfl
      have c1 : wr.cell? ⟨w.heap.size + 1 + 1, 1, none⟩ = some (u32v (St.make p 100).b) := by rw [cell_of_row _ _ _ _ _ _ h2]; rfl
      have c2 : wr.cell? ⟨w.heap.size + 1 + 1, 2, none⟩ = some (u32v (St.make p 100).c) := by rw [cell_of_row _ _ _ _ _ _ h2]; rfl
      have c3 : wr.cell? ⟨w.heap.size + 1 + 1, 3, none⟩ = some (u32v (St.make p 100).d) := by rw [cell_of_row _ _ _ _ _ _ h2]; rfl
      have hzq : ∀ k, (hzz : k < 4) → wr.cell? ⟨w.heap.size + 1, k, none⟩ = some (z[k]'(by omega)) ∧ wr.frozen? ⟨w.heap.size + 1, k, none⟩ = false := fun k hzz => ⟨by rw [cell_of_row _ _ _ _ _ _ h1]; exact Array.getElem?_eq_getElem (by omega), frozen_of_row _ _ _ _ _ h1⟩
      obtain ⟨y0, g0⟩ := hzq 0 (by omega)
      obtain ⟨y1, g1⟩ := hzq 1 (by omega)
      obtain ⟨y2, g2⟩ := hzq 2 (by omega)
      obtain ⟨y3, g3⟩ := hzq 3 (by omega)
      have m0 : HasCell wr (w.heap.size + 1) 0 := ⟨by rw [y0]; rfl⟩
      have m1 : HasCell wr (w.heap.size + 1) 1 := ⟨by rw [y1]; rfl⟩
      have m2 : HasCell wr (w.heap.size + 1) 2 := ⟨by rw [y2]; rfl⟩
      have m3 : HasCell wr (w.heap.size + 1) 3 := ⟨by rw [y3]; rfl⟩
      clear hzq h0 h1 h2
      have HC := Lib.hid hc
      clear hc
      generalize St.make p 100 = m at *
      go_wp2
      exact bodyPost_ret (v := m.v) (by simp [results, Try.results64, go_sem]) rfl (gr_mk rfl (by repeat (with_reducible first | exact HC.out | exact Chg.refl _ _ | refine chg_m ?_ _ | refine chg_g ?_ _ | refine chg_alloc ?_ _ | refine chg_drew ?_ | refine chg_drewN ?_ _ | refine chg_set ?_ _ _ _)))
end Go.Proofs.Yteemkceceaabkaa
