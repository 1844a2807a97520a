/- Sets as rows of bools: Ids, Count, Subset. -/
import Derived.Test.YteemkceceaabkaaRs4
set_option linter.unusedSimpArgs false
set_option linter.unusedVariables false
namespace Go.Proofs.Yteemkceceaabkaa
open Go.RowKit Go.Ear
set_option maxHeartbeats 2000000
set_option maxRecDepth 100000
set_option linter.unusedSimpArgs false
theorem info3 : (Try.prog.info? 3).map (fun i => (i.zero, i.size, i.bytes)) = some (some (.int .i64 0), 1, 8) := by kernel_rfl
/-- The ids below q of a set. -/
def idsTo (s : St) (q : Nat) : List Nat := (List.range q).filter s.bit
theorem idsTo_succ (s : St) (q : Nat) : idsTo s (q + 1) = if s.bit q then idsTo s q ++ [q] else idsTo s q := by
  unfold idsTo
  rw [List.range_succ, List.filter_append]
  by_cases h : s.bit q <;> simp [List.filter_cons, h]
theorem idsTo_le (s : St) (q : Nat) : (idsTo s q).length ≤ q := by
  have := List.length_filter_le s.bit (List.range q)
  simpa [idsTo] using this
def nv (l : List Nat) : List Value := l.map fun (i : Nat) => i64 (i : Int)
/-- What Ids answers: a list of its own. -/
def IdsOf (w : World) (l : List Nat) : Ending → World → Prop := fun e w' => ∃ v, e = .returned v ∧ w'.ownsRow w.heap.size 3 1 v l.length (nv l) ∧ ∃ g : Grows w, w' = g.w
theorem idsR_any (s : St) (hs : s.ok) (w : World) : Calls Try.prog 56 #[s.v] w (IdsOf w s.ids) := by
  have hrow := fun W => row_any s hs W
  have hrc : (rowc s.bit).size = 100 := rowc_size _
  have hget : ∀ q, q < 100 → (rowc s.bit)[q]? = some (.bool (s.bit q)) := fun q h => rowc_get _ h
  have h1c := rowc_one s.bit
  have hi2 : (Try.prog.info? 105).map (·.size) = some (rowc s.bit).size := by rw [rowc_size]; exact infoRow
  have hz := zeroRow
  have HG := Lib.hid (And.intro hget (And.intro hz hrc))
  clear hget hz hrc
  have hids : s.ids = idsTo s 100 := rfl
  rw [hids]
  clear hids
  generalize hrcq : rowc s.bit = rc at *
  clear hrcq
  go_enter Try.func56, Try.ntmps56
  go_wp2_with fail
  refine (hrow _).mono ?_
  rintro e w' ⟨rfl, g, rfl⟩
  have hgs : w.heap.size ≤ g.w.heap.size := by have := g.h.size; simp at this; omega
  obtain ⟨hget, hz, hrc⟩ := HG.out
  have hrow0 := heap_alloc_new g.w (.cells Try.zeroCells105 105)
  have hzs : Try.zeroCells105.size = 100 := by rw [hz]; exact rowc_size _
  have ht : (g.w.alloc (.cells Try.zeroCells105 105)).there g.w.heap.size 0 rc.size := there_of_row hrow0 (by rw [hzs, hrc])
  have hrow1 := heap_cells_same (vs := rc.toList) hrow0 (by rw [hzs, Array.length_toList, hrc])
  have HR := Lib.hid hrow1
  clear hget hz hrc hrow0 hzs hrow1
  go_wp2_with (refine wpList_store_mid rfl 105 _ _ rfl g.w.heap.size 0 rc rfl rfl ht hi2 h1c ?_)
  obtain ⟨i0, hi, hz0, hz1, hz2⟩ := info_parts info3
  go_loopw [4, 5] (fun v' i' wr => ∃ q : Nat, i' = .int .i64 q ∧ q ≤ 100 ∧ wr.ownsRow (g.w.heap.size + 1) 3 1 v' (idsTo s q).length (nv (idsTo s q)) ∧ Chg Noth w wr ∧ wr.heap[g.w.heap.size]? = some (.cells rc 105 (0, 0))) (fun _ i' _ => 100 - (intOf i').toNat)
  case atStart =>
    exact ⟨0, rfl, by omega, (by rw [show idsTo s 0 = [] from rfl]; exact World.ownsRow_nil _ _ _ _), (by repeat (with_reducible first | exact Chg.refl _ _ | refine chg_m ?_ _ | refine chg_g ?_ _ | refine chg_alloc ?_ _ | refine chg_drew ?_ | refine chg_drewN ?_ _ | refine chg_set ?_ _ _ _ | refine chg_cells _ _ _ ?_ (.inr hgs))), by have := HR.out; simpa using this⟩
  case round =>
    clear HR ht
    obtain ⟨q, rfl, hq, hown, hc, hr⟩ := hrel
    have j1 : Old g.w.heap.size wr := ⟨(Array.getElem?_eq_some_iff.1 hr).1⟩
    by_cases hlt : q < 100
    · have c1 : wr.cell? ⟨g.w.heap.size, q, none⟩ = some (.bool (s.bit q)) := by rw [cell_of_row _ _ _ _ _ _ hr]; exact HG.out.1 q hlt
      have hsu := idsTo_succ s q
      have hle := idsTo_le s q
      have HC := Lib.hid (And.intro hc hr)
      clear hc hr
      cases hb : s.bit q
      · rw [hb] at c1 hsu
        simp only [Bool.false_eq_true, if_false] at hsu
        have HO := Lib.hid (And.intro hsu hown)
        clear hsu hown hb
        go_wp2
        obtain ⟨hsu, hown⟩ := HO.out
        exact ⟨⟨q + 1, by simp, by omega, by rw [hsu]; exact hown, HC.out.1, HC.out.2⟩, by simp [intOf]; omega⟩
      · rw [hb] at c1 hsu
        simp only [if_true] at hsu
        have HO := Lib.hid hsu
        clear hsu hb
        generalize hl : idsTo s q = l at *
        have HL := Lib.hid hl
        clear hl
        have hnl : (nv l).length = l.length := by simp [nv]
        have HNL := Lib.hid hnl
        clear hnl
        have hbs := hown.lt
        go_wp2_with (at_builtin; refine wpList_append_own _ rfl _ _ 90 rfl (g.w.heap.size + 1) 3 i0 (.int .i64 0) 1 8 Try.underlying90 hi hz0 hz1 hz2 rfl (by decide) _ _ _ rfl (hown.alloc _) ⟨wr.heap.size, 0, none⟩ 1 1 [.int .i64 q] rfl rfl ?c1 ?c2 ?c3 ?c4 ?c5 ?_)
        case c1 => exact World.news_of_block (cs := #[.int .i64 (q : Int)]) (heap_alloc_new _ _)
        case c2 => intro u hu; simp at hu; subst hu; rfl
        case c3 => simp only [maxLen]; omega
        case c4 => omega
        case c5 => have := j1.lt; simp; omega
        intro v1 w1 hown1 hg1 _
        have hC1 : Chg Noth w w1 := Chg.trans (G := fun k => _ = some k) (chg_alloc HC.out.1 _) (Chg.of_grown hg1) (fun k hk e => by have := (hbs k e).1; omega)
        have hR1 : w1.heap[g.w.heap.size]? = some (.cells rc 105 (0, 0)) := by
          rw [hg1.block g.w.heap.size (by have := j1.lt; simp; omega) (fun e => by have := (hbs _ e.symm).1; omega), Below.heap_alloc _ _ _ j1.lt]
          exact HC.out.2
        have HF := Lib.hid (And.intro hown1 (And.intro hC1 hR1))
        clear hown1 hg1 hC1 hR1 hown hbs
        go_wp2
        obtain ⟨hown1, hC1, hR1⟩ := HF.out
        refine ⟨⟨q + 1, by simp, by omega, ?_, hC1, hR1⟩, by simp [intOf]; omega⟩
        rw [HO.out]
        simpa [nv] using hown1
    · obtain rfl : q = 100 := by omega
      have HF := Lib.hid (And.intro hown hc)
      clear hown hc hr
      go_wp2
      go_ret
      exact ⟨_, rfl, own_base HF.out.1 (by omega), muts_ex HF.out.2⟩

theorem countR_any (s : St) (hs : s.ok) (w : World) : Calls Try.prog 46 #[s.v] w (Gr (i64 s.ids.length) w) := by
  have hi := fun W => idsR_any s hs W
  generalize s.ids = l at *
  go_enter Try.func46, Try.ntmps46
  go_wp2_with fail
  refine (hi _).mono ?_
  rintro e w' ⟨v, rfl, ho, g, rfl⟩
  obtain ⟨A, c, rfl⟩ := own_shape ho
  clear ho
  go_wp2
  go_ret
  exact gr_mk rfl (by repeat (with_reducible first | exact Chg.refl _ _ | refine chg_m ?_ _ | refine chg_g ?_ _ | refine chg_alloc ?_ _ | refine chg_drew ?_ | refine chg_drewN ?_ _ | refine chg_set ?_ _ _ _))
theorem sub_ids (s t : St) : (decide ((St.make (fun i => s.bit i && !t.bit i) 100).ids.length = 0)) = St.sub s t := by
  rw [Bool.eq_iff_iff, decide_eq_true_eq, St.sub_iff, List.length_eq_zero_iff]
  unfold St.ids
  rw [List.filter_eq_nil_iff]
  have hb : ∀ i, i < 100 → (St.make (fun i => s.bit i && !t.bit i) 100).bit i = (s.bit i && !t.bit i) := fun i hi => by
    rw [St.make_bit _ _ (by omega) _ (by omega)]
    simp [hi]
  constructor
  · intro h i hi hs
    have := h i (List.mem_range.2 hi)
    rw [hb i hi, hs] at this
    simpa using this
  · intro h i hi
    have hi := List.mem_range.1 hi
    rw [hb i hi]
    cases hs : s.bit i
    · simp
    · simp [h i hi hs]
theorem subsetR_any (s t : St) (hs : s.ok) (ht : t.ok) (w : World) : Calls Try.prog 48 #[s.v, t.v] w (Gr (.bool (St.sub s t)) w) := by
  have h1 := fun W => lessR_any s t hs ht W
  have h2 := fun W => countR_any _ (St.make_ok (fun i => s.bit i && !t.bit i) 100) W
  rw [← sub_ids]
  generalize St.make (fun i => s.bit i && !t.bit i) 100 = m at *
  generalize m.ids.length = k at *
  have hk : decide (k = 0) = ((k : Int) == 0) := by
    rw [Bool.eq_iff_iff, beq_iff_eq, decide_eq_true_eq]
    omega
  rw [hk]
  clear hk
  go_enter Try.func48, Try.ntmps48
  go_wp2_with fail
  refine (h1 _).mono ?_
  rintro e w' ⟨rfl, g1, rfl⟩
  go_wp2_with fail
  refine (h2 _).mono ?_
  rintro e w' ⟨rfl, g2, rfl⟩
  go_wp2_with fail
  go_ret
  exact gr_mk rfl (by repeat (with_reducible first | exact Chg.refl _ _ | refine chg_m ?_ _ | refine chg_g ?_ _ | refine chg_alloc ?_ _ | refine chg_drew ?_ | refine chg_drewN ?_ _ | refine chg_set ?_ _ _ _))
end Go.Proofs.Yteemkceceaabkaa
