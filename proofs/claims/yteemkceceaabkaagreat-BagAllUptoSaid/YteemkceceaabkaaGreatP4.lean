/- The document's bag: Double, Round, Take. -/
import Derived.Test.YteemkceceaabkaaGreatP3
import Derived.Test.YteemkceceaabkaaGreatF
import Derived.Test.YteemkceceaabkaaGreatRh
namespace Go.Proofs.YteemkceceaabkaaGreat
open Go.RowKit Go.Ear
set_option maxHeartbeats 2000000
set_option maxRecDepth 40000

theorem doubleR_any (lb off : Nat) (cs : Array Value) (t : TypeId) (B : BagS) (F : Nat → Prop) (i : Int) (w : World) (hB : IsRef w lb off cs t B F) (hlast : B.last < 1000000000000) :
    Calls Tryz.prog 89 #[.pointer (some ⟨lb, off, none⟩), i64 i] w (RefTo w lb off cs t (doubleS B i).1 F (.tuple #[i64 (doubleS B i).2.1, i64 (doubleS B i).2.2])) := by
  have hhas := fun W h => has_any lb off cs t B F i W h
  by_cases hbad : i < 0 ∨ (B.l.length : Int) ≤ i
  · have ed : doubleS B i = (B, 0, 91) := by
      unfold doubleS
      split
      · rfl
      · rw [List.getElem?_eq_none (by omega)]
    rw [ed]
    rw [show decide (0 ≤ i ∧ i < (B.l.length : Int)) = false from by simp; omega] at hhas
    go_enter Tryz.func89, Tryz.ntmps89
    go_wp2_with (go_at_call 127; refine (hhas _ (hB.grow (by repeat (with_reducible first | exact Chg.refl _ _ | refine chg_m ?_ _ | refine chg_g ?_ _ | refine chg_alloc ?_ _ | refine chg_drew ?_ | refine chg_drewN ?_ _ | refine chg_set ?_ _ _ _)))).mono ?_; rintro e w' ⟨rfl, g1, rfl⟩)
    exact bodyPost_ret (v := .tuple #[i64 0, i64 91]) (by simp [results, Tryz.results89, go_sem]) rfl (RefTo.same (gr_mk rfl (by repeat (with_reducible first | exact Chg.refl _ _ | refine chg_m ?_ _ | refine chg_g ?_ _ | refine chg_alloc ?_ _ | refine chg_drew ?_ | refine chg_drewN ?_ _ | refine chg_set ?_ _ _ _))) hB)
  · obtain ⟨i, rfl⟩ := Int.eq_ofNat_of_zero_le (show 0 ≤ i by omega)
    have hi : i < B.l.length := by omega
    obtain ⟨x, hx⟩ : ∃ x, B.l[i]? = some x := ⟨_, List.getElem?_eq_getElem hi⟩
    rw [show decide (0 ≤ (i : Int) ∧ (i : Int) < (B.l.length : Int)) = true from by simp; omega] at hhas
    have hB0 := hB
    obtain ⟨gs, vs, hr, hF⟩ := hB
    have hv : vs[i]? = some (vs[i]'(by rw [hr.len]; exact hi)) := List.getElem?_eq_getElem _
    generalize vs[i]'(by rw [hr.len]; exact hi) = v at hv
    have hd := hr.data i x v hx hv
    have hsm := hr.small x (List.mem_of_getElem? hx)
    have ed : doubleS B (i : Int) = sendS B x.fr x.to x.data := by
      simp only [doubleS, if_neg (show ¬ (i : Int) < 0 by omega), Int.toNat_natCast, hx, sendS]
      rw [if_neg (by omega)]
    rw [ed]
    obtain ⟨A, c, rfl⟩ := own_shape hd
    have hsend := fun W h hs => sendR_any lb off cs t B F x.fr x.to A c x.data W h hs (fun _ k hk => hr.ne_lb (.inr ⟨_, List.mem_of_getElem? hv, hk⟩)) hlast
    generalize sendS B x.fr x.to x.data = R at *
    obtain ⟨B', r1, r2⟩ := R
    simp only at hsend ⊢
    obtain ⟨c0, c1, c2, _, hlb⟩ := hr.cells
    have i1 : Old lb w := ⟨hlb⟩
    have hown := hr.own
    obtain ⟨g, cap, rfl, _, hg⟩ := hown.form (by omega)
    have i2 : Old g w := ⟨hg⟩
    obtain ⟨a0, a1, a2, a3⟩ := gram_cells hown hr.len hx hv
    have hs := SL.of_own hd
    have hle : B.l.length ≤ 65536 := by have := hr.fits; omega
    obtain ⟨n, hn⟩ : ∃ n, n = B.l.length := ⟨_, rfl⟩
    rw [← hn] at c0 hi hle
    clear hn hd hr hown hv hx c1 c2 ed hF
    go_enter Tryz.func89, Tryz.ntmps89
    go_wp2_with (go_at_call 127; refine (hhas _ (hB0.grow (by repeat (with_reducible first | exact Chg.refl _ _ | refine chg_m ?_ _ | refine chg_g ?_ _ | refine chg_alloc ?_ _ | refine chg_drew ?_ | refine chg_drewN ?_ _ | refine chg_set ?_ _ _ _)))).mono ?_; rintro e w' ⟨rfl, g1, rfl⟩)
    refine wp_region_head_call 25 (by kernel_rfl) (by kernel_rfl) ?_
    simp only [List.take_succ_cons, List.take_zero]
    repeat (go_big_quiet_step (fail))
    refine wpQuiet_nil ?_
    intro g2 o ho
    simp only [List.getElem?_cons_succ, List.getElem?_cons_zero, Option.some.injEq] at ho
    subst ho
    simp only [List.drop_succ_cons, List.drop_zero]
    go_simp
    go_at_call 81
    refine (hsend _ (hB0.grow (by repeat (with_reducible first | exact Chg.refl _ _ | refine chg_m ?_ _ | refine chg_g ?_ _ | refine chg_alloc ?_ _ | refine chg_drew ?_ | refine chg_drewN ?_ _ | refine chg_set ?_ _ _ _))) (hs.grow (by repeat (with_reducible first | exact Chg.refl _ _ | refine chg_m ?_ _ | refine chg_g ?_ _ | refine chg_alloc ?_ _ | refine chg_drew ?_ | refine chg_drewN ?_ _ | refine chg_set ?_ _ _ _)))).mono ?_
    rintro e w' ⟨rfl, m, gs', F', rfl, hB', hF'⟩
    dsimp only
    unfold RestQ
    repeat (go_big_quiet_step (fail))
    refine wpQuiet_nil ?_
    intro g3
    have hC0 : Chg Noth w (g1.join g2).w := by repeat (with_reducible first | exact Chg.refl _ _ | refine chg_m ?_ _ | refine chg_g ?_ _ | refine chg_alloc ?_ _ | refine chg_drew ?_ | refine chg_drewN ?_ _ | refine chg_set ?_ _ _ _)
    have HX : RefTo w lb off cs t B' F (.tuple #[i64 r1, i64 r2]) (.returned (.tuple #[i64 r1, i64 r2])) g3.w :=
      ⟨rfl, ⟨g3.w, ((hC0.mono fun _ _ e => e.elim).trans m.h fun _ _ e => e).trans g3.h fun _ _ e => e.elim⟩, gs', F', rfl, hB'.grow g3.h, fun k hk => (hF' k hk).imp_right fun h => Nat.le_trans hC0.size h⟩
    have HX := Lib.hid HX
    clear hB' hF' hsend hB0
    go_wp2
    exact bodyPost_ret (v := .tuple #[i64 r1, i64 r2]) (by simp [results, Tryz.results89, go_sem]) rfl HX.out

theorem roundR_any (v m : Int) (w : World) (hm : 0 < m) (hm' : m ≤ 1000000) (hv : -9223372036854775808 ≤ v ∧ v ≤ 9223372036854775807) :
    Calls Tryz.prog 130 #[i64 v, i64 m] w (Gr (i64 (v % m)) w) := by
  have b1 := Int.emod_nonneg v (show m ≠ 0 by omega)
  have b2 := Int.emod_lt_of_pos v hm
  have key : (v.tmod m < 0 ∧ v.tmod m + m = v % m ∧ -m < v.tmod m) ∨ (0 ≤ v.tmod m ∧ v.tmod m = v % m) := by
    rcases Int.lt_or_le v 0 with hneg | hpos
    · obtain ⟨u, rfl⟩ : ∃ u, v = -u := ⟨-v, by omega⟩
      have e1 : (-u).tmod m = -(u % m) := by rw [Int.neg_tmod, Int.tmod_eq_emod_of_nonneg (by omega)]
      have c1 := Int.emod_nonneg u (show m ≠ 0 by omega)
      have c2 := Int.emod_lt_of_pos u hm
      rw [e1]
      by_cases h0 : u % m = 0
      · refine .inr ⟨by omega, ?_⟩
        rw [h0]
        have := Int.emod_emod_of_dvd (-u) (Int.dvd_refl m)
        rw [Int.neg_emod]
        simp [Int.dvd_of_emod_eq_zero h0]
      · refine .inl ⟨by omega, ?_, by omega⟩
        rw [Int.neg_emod]
        have hnd : ¬ m ∣ u := fun h => h0 (Int.emod_eq_zero_of_dvd h)
        simp [hnd]
        omega
    · exact .inr ⟨by rw [Int.tmod_eq_emod_of_nonneg hpos]; exact b1, Int.tmod_eq_emod_of_nonneg hpos⟩
  rcases key with ⟨h1, h2, h3⟩ | ⟨h1, h2⟩
  · have HW := Lib.hid h2
    clear h2 b1 b2
    go_enter Tryz.func130, Tryz.ntmps130
    go_wp2
    go_ret
    exact gr_same (by rw [← HW.out]; rfl)
  · have HW := Lib.hid h2
    have h1' : ¬ v.tmod m < 0 := by omega
    clear h2 b1 b2
    go_enter Tryz.func130, Tryz.ntmps130
    go_wp2
    go_ret
    exact gr_same (by rw [← HW.out]; rfl)

theorem eraseIdx_take {α : Type} (l : List α) (i k : Nat) (x : α) (h : l[k]? = some x) : (l.take (k + 1)).eraseIdx i = if k = i then l.take k else (l.take k).eraseIdx i ++ [x] := by
  have hk := (List.getElem?_eq_some_iff.1 h).1
  rw [List.take_add_one, h]
  simp only [Option.toList_some]
  rw [List.eraseIdx_append]
  have hl : (l.take k).length = k := by simp; omega
  rw [hl]
  split
  · rw [if_neg (by omega)]
  · rename_i hn
    split
    · rename_i e
      subst e
      simp
    · rw [List.eraseIdx_of_length_le (l := [x]) (by simp; omega), List.eraseIdx_of_length_le (l := l.take k) (by rw [hl]; omega)]
theorem eraseIdx_take_i {α : Type} (l : List α) (i : Nat) : (l.take i).eraseIdx i = l.take i := List.eraseIdx_of_length_le (by simp; omega)

theorem takeR_bad (lb off : Nat) (cs : Array Value) (t : TypeId) (B : BagS) (F : Nat → Prop) (i : Int) (w : World) (hB : IsRef w lb off cs t B F) (h : i < 0 ∨ (B.l.length : Int) ≤ i) :
    Calls Tryz.prog 87 #[.pointer (some ⟨lb, off, none⟩), i64 i] w (Gr (.tuple #[gv 0 0 0 (.slice none 0 0), i64 91]) w) := by
  have hhas := fun W h => has_any lb off cs t B F i W h
  rw [show decide (0 ≤ i ∧ i < (B.l.length : Int)) = false from by simp; omega] at hhas
  go_enter Tryz.func87, Tryz.ntmps87
  go_wp2_with (go_at_call 127; refine (hhas _ (hB.grow (by repeat (with_reducible first | exact Chg.refl _ _ | refine chg_m ?_ _ | refine chg_g ?_ _ | refine chg_alloc ?_ _ | refine chg_drew ?_ | refine chg_drewN ?_ _ | refine chg_set ?_ _ _ _)))).mono ?_; rintro e w' ⟨rfl, g1, rfl⟩)
  exact bodyPost_ret (v := .tuple #[gv 0 0 0 (.slice none 0 0), i64 91]) (by simp [results, Tryz.results87, go_sem]) rfl (gr_mk rfl (by repeat (with_reducible first | exact Chg.refl _ _ | refine chg_m ?_ _ | refine chg_g ?_ _ | refine chg_alloc ?_ _ | refine chg_drew ?_ | refine chg_drewN ?_ _ | refine chg_set ?_ _ _ _)))

theorem takeR_good (lb off : Nat) (cs : Array Value) (t : TypeId) (i : Nat) (B : BagS) (F : Nat → Prop) (w : World) (hB : IsRef w lb off cs t B F) (x : Gm) (hx : B.l[i]? = some x) :
    Calls Tryz.prog 87 #[.pointer (some ⟨lb, off, none⟩), i64 i] w fun e w' => ∃ A c, RefTo w lb off cs t { B with l := B.l.eraseIdx i } F (.tuple #[gv x.id x.fr x.to (.slice A x.data.length c), i64 0]) e w' ∧ w'.ownsRow 0 5 1 (.slice A x.data.length c) x.data.length (bv x.data) ∧ ∀ k, (Value.slice A x.data.length c).ownBlock = some k → F k := by
  have hi : i < B.l.length := (List.getElem?_eq_some_iff.1 hx).1
  have hhas := fun W h => has_any lb off cs t B F (i : Int) W h
  rw [show decide (0 ≤ (i : Int) ∧ (i : Int) < (B.l.length : Int)) = true from by simp; omega] at hhas
  have hB0 := hB
  obtain ⟨gs, vs, hr, hF⟩ := hB
  have hv : vs[i]? = some (vs[i]'(by rw [hr.len]; exact hi)) := List.getElem?_eq_getElem _
  generalize vs[i]'(by rw [hr.len]; exact hi) = v at hv
  have hd := hr.data i x v hx hv
  obtain ⟨A, c, rfl⟩ := own_shape hd
  obtain ⟨c0, c1, c2, f0, hlb⟩ := hr.cells
  have f1 := f0 off
  clear f0
  have i1 : Old lb w := ⟨hlb⟩
  have hown := hr.own
  obtain ⟨g, cap, rfl, _, hg⟩ := hown.form (by omega)
  have i2 : Old g w := ⟨hg⟩
  obtain ⟨a0, a1, a2, a3⟩ := gram_cells hown hr.len hx hv
  have hle : B.l.length ≤ 65536 := by have := hr.fits; omega
  obtain ⟨n, hn⟩ : ∃ n, n = B.l.length := ⟨_, rfl⟩
  rw [← hn] at c0 hi hle
  have HN := Lib.hid hn
  have HR := Lib.hid hr
  have HF := Lib.hid hF
  have HO := Lib.hid hown
  have HX := Lib.hid hx
  have HV := Lib.hid hv
  have k1 : HasCell w lb off := ⟨by rw [c0]; rfl⟩
  clear hn hr hown hv hx c1 c2 hF
  go_enter Tryz.func87, Tryz.ntmps87
  go_wp2_with (go_at_call 127; refine (hhas _ (hB0.grow (by repeat (with_reducible first | exact Chg.refl _ _ | refine chg_m ?_ _ | refine chg_g ?_ _ | refine chg_alloc ?_ _ | refine chg_drew ?_ | refine chg_drewN ?_ _ | refine chg_set ?_ _ _ _)))).mono ?_; rintro e w' ⟨rfl, g1, rfl⟩)
  generalize hW : g1.w.alloc (.cells #[i64 x.id, i64 x.fr, i64 x.to, .slice A x.data.length c] 110) = X
  have hC : Chg Noth w X := by rw [← hW]; repeat (with_reducible first | exact Chg.refl _ _ | refine chg_m ?_ _ | refine chg_g ?_ _ | refine chg_alloc ?_ _ | refine chg_drew ?_ | refine chg_drewN ?_ _ | refine chg_set ?_ _ _ _)
  have hb6 : X.heap[g1.w.heap.size]? = some (.cells #[i64 x.id, i64 x.fr, i64 x.to, .slice A x.data.length c] 110 (0, 0)) := by rw [← hW]; exact heap_alloc_new _ _
  have hl4 : w.heap.size < g1.w.heap.size := by have := g1.h.size; simp at this; omega
  have hl6 : g1.w.heap.size < X.heap.size := (Array.getElem?_eq_some_iff.1 hb6).1
  have hb4 : X.heap[w.heap.size]? = some (.cells #[i64 0, i64 0, i64 0, .slice none 0 0] 110 (0, 0)) := by
    rw [← hW, Below.heap_alloc _ _ _ hl4, g1.h.block _ (by simp) (fun e => e)]
    exact heap_alloc_new _ _
  obtain ⟨b6, hb6e⟩ : ∃ b6, b6 = g1.w.heap.size := ⟨_, rfl⟩
  rw [← hb6e] at hb6 hl4 hl6 ⊢
  have H4 := Lib.hid hb4
  have H6 := Lib.hid hb6
  clear hW hb6e hb4 hb6 g1 a0 a1 a2 a3
  obtain ⟨i0, hi0, hz0, hz1, hz2⟩ := info_parts info35
  go_loopw [7, 8] (fun l' i' wr => ∃ (k : Nat), k ≤ n ∧ i' = .int .i64 k ∧ Chg Noth X wr ∧ wr.ownsRow X.heap.size 110 4 l' ((B.l.take k).eraseIdx i).length (flat ((B.l.take k).eraseIdx i) ((vs.take k).eraseIdx i))) (fun _ i' _ => n - (intOf i').toNat)
  case atStart => exact ⟨0, Nat.zero_le _, rfl, Chg.refl _ _, by simpa [flat] using World.ownsRow_nil _ _ _ _⟩
  case round =>
    obtain ⟨k, hk, rfl, hCx, hrow⟩ := hrel
    have hCw : Chg Noth w wr := hC.trans hCx fun _ _ e => e
    have hownw := own_chg HO.out hCw fun _ _ e => e
    have d0 : wr.cell? ⟨lb, off, none⟩ = some (.slice (some ⟨g, 0, none⟩) n cap) := (hCw.cell (p := ⟨lb, off, none⟩) hlb fun e => e).trans (by rw [c0])
    have j1 : Old lb wr := ⟨Nat.lt_of_lt_of_le hlb hCw.size⟩
    have j2 : Old g wr := ⟨Nat.lt_of_lt_of_le hg hCw.size⟩
    by_cases hlt : k < n
    · have hkl : k < B.l.length := by have := HN.out; omega
      obtain ⟨y, hy⟩ : ∃ y, B.l[k]? = some y := ⟨_, List.getElem?_eq_getElem hkl⟩
      have hu : vs[k]? = some (vs[k]'(by rw [HR.out.len]; exact hkl)) := List.getElem?_eq_getElem _
      generalize vs[k]'(by rw [HR.out.len]; exact hkl) = u at hu
      by_cases hki : k = i
      · subst hki
        have e1 : (B.l.take (k + 1)).eraseIdx k = (B.l.take k).eraseIdx k := by rw [eraseIdx_take _ _ _ _ hy, if_pos rfl, eraseIdx_take_i]
        have e2 : (vs.take (k + 1)).eraseIdx k = (vs.take k).eraseIdx k := by rw [eraseIdx_take _ _ _ _ hu, if_pos rfl, eraseIdx_take_i]
        have hrow' : wr.ownsRow X.heap.size 110 4 u7 ((B.l.take (k + 1)).eraseIdx k).length (flat ((B.l.take (k + 1)).eraseIdx k) ((vs.take (k + 1)).eraseIdx k)) := by rw [e1, e2]; exact hrow
        have HW := Lib.hid hrow'
        have HC := Lib.hid hCx
        clear hy hu e1 e2 hrow' hrow hownw
        go_wp2
        go_roundw
        case rel => exact ⟨k + 1, by omega, by go_num, HC.out, HW.out⟩
        case measure => simp [intOf]; omega
      · have e1 : (B.l.take (k + 1)).eraseIdx i = (B.l.take k).eraseIdx i ++ [y] := by rw [eraseIdx_take _ _ _ _ hy, if_neg hki]
        have e2 : (vs.take (k + 1)).eraseIdx i = (vs.take k).eraseIdx i ++ [u] := by rw [eraseIdx_take _ _ _ _ hu, if_neg hki]
        have hll : ((vs.take k).eraseIdx i).length = ((B.l.take k).eraseIdx i).length := by simp [List.length_eraseIdx, HR.out.len]
        have hdu := HR.out.data k y u hy hu
        obtain ⟨D, dc, rfl⟩ := own_shape hdu
        have hlen : ((B.l.take k).eraseIdx i).length ≤ k := by
          have := List.length_eraseIdx_le (B.l.take k) i
          have := List.length_take_le k B.l
          omega
        have hne : ((k : Int) != (i : Int)) = true := by rw [bne_iff_ne]; omega
        have hownw' : wr.ownsRow 0 110 4 (.slice (some ⟨g, 0, none⟩) B.l.length cap) B.l.length (flat B.l vs) := hownw
        obtain ⟨b0, b1, b2, b3⟩ := gram_cells hownw' HR.out.len hy hu
        obtain ⟨q, hq⟩ : ∃ q, q = ((B.l.take k).eraseIdx i).length := ⟨_, rfl⟩
        rw [← hq] at hrow hlen
        obtain ⟨A1, cap1, rfl⟩ := own_shape hrow
        have HQ := Lib.hid hq
        have HL := Lib.hid hll
        have E1 := Lib.hid e1
        have E2 := Lib.hid e2
        have HC := Lib.hid hCx
        clear hq hll e1 e2 hy hu hownw hownw' hdu
        go_wp2_with (at_builtin; refine wpList_append_own _ rfl _ _ 58 rfl X.heap.size 110 i0 _ 4 48 Tryz.underlying58 hi0 hz0 hz1 hz2 rfl (by decide) (.slice A1 q cap1) q _ rfl (own_chg (F := Noth) hrow (by repeat (with_reducible first | exact Chg.refl _ _ | refine chg_m ?_ _ | refine chg_g ?_ _ | refine chg_alloc ?_ _ | refine chg_drew ?_ | refine chg_drewN ?_ _ | refine chg_set ?_ _ _ _)) (fun _ _ e => e)) ⟨_, 0, none⟩ 1 1 [i64 y.id, i64 y.fr, i64 y.to, .slice D y.data.length dc] rfl rfl (World.news_of_block (cs := #[i64 y.id, i64 y.fr, i64 y.to, .slice D y.data.length dc]) (heap_alloc_hs _ _ _)) (by intro u hu; simp at hu; rcases hu with rfl | rfl | rfl | rfl <;> rfl) (by simp only [maxLen]; omega) (by omega) (by have := HC.out.size; simp <;> omega) ?_; intro v1 w1 hown1 hg1 _)
        have hC1 : Chg Noth X w1 := (HC.out.trans (show Chg Noth wr _ from chg_alloc (Chg.refl _ _) _) fun _ _ e => e).trans (Chg.of_grown hg1) fun j hj e => by have := (hrow.lt j e).1; omega
        go_roundw
        case rel =>
          refine ⟨k + 1, by omega, by go_num, hC1, ?_⟩
          rw [E1.out, E2.out, flat_snoc _ _ _ _ HL.out, List.length_append, ← HQ.out]
          exact hown1
        case measure => simp [intOf]; omega
    · obtain rfl : k = n := by omega
      rw [List.take_of_length_le (by have := HN.out; omega), List.take_of_length_le (by have := HN.out; have := HR.out.len; omega)] at hrow
      have hlene : (B.l.eraseIdx i).length = k - 1 := by rw [List.length_eraseIdx_of_lt (by have := HN.out; omega), ← HN.out]
      obtain ⟨q, hq⟩ : ∃ q, q = (B.l.eraseIdx i).length := ⟨_, rfl⟩
      rw [← hq] at hrow hlene
      obtain ⟨A1, cap1, rfl⟩ := own_shape hrow
      have HQ := Lib.hid hq
      have HLE := Lib.hid hlene
      have q0 : wr.frozen? ⟨lb, off, none⟩ = false := (hCw.frozen (p := ⟨lb, off, none⟩) hlb fun e => e).trans f1
      have b4w : wr.heap[w.heap.size]? = some (.cells #[i64 0, i64 0, i64 0, .slice none 0 0] 110 (0, 0)) := (hCx.block _ (by omega) fun e => e).trans H4.out
      have b6w : wr.heap[b6]? = some (.cells #[i64 x.id, i64 x.fr, i64 x.to, .slice A x.data.length c] 110 (0, 0)) := (hCx.block _ hl6 fun e => e).trans H6.out
      have x0 : wr.cell? ⟨b6, 0, none⟩ = some (i64 x.id) := by rw [cell_of_row _ _ 0 _ _ _ b6w]; rfl
      have x1 : wr.cell? ⟨b6, 1, none⟩ = some (i64 x.fr) := by rw [cell_of_row _ _ 1 _ _ _ b6w]; rfl
      have x2 : wr.cell? ⟨b6, 2, none⟩ = some (i64 x.to) := by rw [cell_of_row _ _ 2 _ _ _ b6w]; rfl
      have x3 : wr.cell? ⟨b6, 3, none⟩ = some (.slice A x.data.length c) := by rw [cell_of_row _ _ 3 _ _ _ b6w]; rfl
      have v0 : wr.cell? ⟨w.heap.size, 0, none⟩ = some (i64 0) := by rw [cell_of_row _ _ 0 _ _ _ b4w]; rfl
      have y0 : HasCell wr w.heap.size 0 := ⟨by rw [v0]; rfl⟩
      have v1 : wr.cell? ⟨w.heap.size, 1, none⟩ = some (i64 0) := by rw [cell_of_row _ _ 1 _ _ _ b4w]; rfl
      have y1 : HasCell wr w.heap.size 1 := ⟨by rw [v1]; rfl⟩
      have v2 : wr.cell? ⟨w.heap.size, 2, none⟩ = some (i64 0) := by rw [cell_of_row _ _ 2 _ _ _ b4w]; rfl
      have y2 : HasCell wr w.heap.size 2 := ⟨by rw [v2]; rfl⟩
      have v3 : wr.cell? ⟨w.heap.size, 3, none⟩ = some (.slice none 0 0) := by rw [cell_of_row _ _ 3 _ _ _ b4w]; rfl
      have y3 : HasCell wr w.heap.size 3 := ⟨by rw [v3]; rfl⟩
      have z0 : ∀ o, wr.frozen? ⟨w.heap.size, o, none⟩ = false := fun o => frozen_of_row _ _ o _ _ b4w
      have hne1 : ¬ b6 = lb := by omega
      have hne2 : ¬ w.heap.size = lb := by omega
      have hne3 : ¬ lb = w.heap.size := by omega
      have klb : HasCell wr lb off := ⟨by rw [d0]; rfl⟩
      have hrow1 := Lib.hid hrow
      have HD := Lib.hid hd
      have HB4 := Lib.hid b4w
      have HCw := Lib.hid hCw
      have HCx := Lib.hid hCx
      clear hrow hq hlene b4w b6w hownw hd
      go_wp2
      refine bodyPost_ret (v := .tuple #[gv x.id x.fr x.to (.slice A x.data.length c), i64 0]) (by simp [results, Tryz.results87, go_sem]) rfl ?_
      have mlb : May lb (fun q => q = lb ∨ q = w.heap.size) wr := ⟨.inl (.inl rfl)⟩
      have mbx : May w.heap.size (fun q => q = lb ∨ q = w.heap.size) wr := ⟨.inl (.inr rfl)⟩
      have hZ : Chg (fun q => q = lb ∨ q = w.heap.size) wr (((((wr.setCell ⟨lb, off, none⟩ (.slice A1 q cap1)).setCell ⟨w.heap.size, 0, none⟩ (i64 x.id)).setCell ⟨w.heap.size, 1, none⟩ (i64 x.fr)).setCell ⟨w.heap.size, 2, none⟩ (i64 x.to)).setCell ⟨w.heap.size, 3, none⟩ (.slice A x.data.length c)) := by repeat (with_reducible first | exact Chg.refl _ _ | refine chg_m ?_ _ | refine chg_g ?_ _ | refine chg_alloc ?_ _ | refine chg_drew ?_ | refine chg_drewN ?_ _ | refine chg_set ?_ _ _ _)
      have hBlk : (((((wr.setCell ⟨lb, off, none⟩ (.slice A1 q cap1)).setCell ⟨w.heap.size, 0, none⟩ (i64 x.id)).setCell ⟨w.heap.size, 1, none⟩ (i64 x.fr)).setCell ⟨w.heap.size, 2, none⟩ (i64 x.to)).setCell ⟨w.heap.size, 3, none⟩ (.slice A x.data.length c)).heap[lb]? = some (.cells (cs.setIfInBounds off (.slice A1 q cap1)) t (0, 0)) := by
        simp only [heap_set_far _ _ _ _ hne3]
        exact heap_setCell_same wr lb off _ _ _ ((HCw.out.block lb hlb fun e => e).trans HR.out.blk)
      generalize ((((wr.setCell ⟨lb, off, none⟩ (.slice A1 q cap1)).setCell ⟨w.heap.size, 0, none⟩ (i64 x.id)).setCell ⟨w.heap.size, 1, none⟩ (i64 x.fr)).setCell ⟨w.heap.size, 2, none⟩ (i64 x.to)).setCell ⟨w.heap.size, 3, none⟩ (.slice A x.data.length c) = W3 at *
      have hcs : off + 2 < cs.size := (Array.getElem?_eq_some_iff.1 HR.out.c2).1
      have hszX := hC.size
      have hold : ∀ (j : Nat) (y : Gm) (u : Value), B.l[j]? = some y → vs[j]? = some u → W3.ownsRow 0 5 1 u y.data.length (bv y.data) := fun j y u hy hu =>
        own_chg (own_chg (HR.out.data j y u hy hu) HCw.out fun _ _ e => e) hZ fun k' hk' e => by
          rcases e with e | e
          · exact HR.out.ne_lb (.inr ⟨u, List.mem_of_getElem? hu, hk'⟩) e
          · have := ((HR.out.data j y u hy hu).lt k' hk').2; omega
      refine ⟨A, c, ⟨rfl, ⟨W3, (HCw.out.mono fun _ _ e => e.elim).trans hZ fun q' hq' e => e.elim .inl fun e => by omega⟩, .slice A1 q cap1, footR (.slice A1 q cap1) (vs.eraseIdx i), rfl, ⟨.slice A1 q cap1, vs.eraseIdx i, ?_, fun _ => Iff.rfl⟩, ?_⟩, hold i x _ HX.out HV.out, fun k' hk' => (HF.out k').2 (.inr ⟨_, List.mem_of_getElem? HV.out, hk'⟩)⟩
      · rw [set_same (cs := cs.setIfInBounds off (.slice A1 q cap1)) (i := off + 1) (by rw [Array.getElem?_setIfInBounds_ne (by omega)]; exact HR.out.c1)]
        refine ⟨hBlk, HR.out.ne, by rw [Array.getElem?_setIfInBounds_self_of_lt (by omega)], by rw [Array.getElem?_setIfInBounds_ne (by omega)]; exact HR.out.c1, by rw [Array.getElem?_setIfInBounds_ne (by omega)]; exact HR.out.c2, ?_, ?_, ?_, ?_, HR.out.lasts, ?_⟩
        · rw [← HQ.out]
          exact own_base (own_chg hrow1.out hZ fun k' hk' e => by have := (hrow1.out.lt k' hk').1; omega) (Nat.zero_le _)
        · simp [List.length_eraseIdx, HR.out.len]
        · intro j y u hy hu
          rw [List.getElem?_eraseIdx] at hy hu
          split at hy
          · rename_i hji
            rw [if_pos hji] at hu
            exact hold j y u hy hu
          · rename_i hji
            rw [if_neg hji] at hu
            exact hold (j + 1) y u hy hu
        · have h8 := HR.out.fits
          have h9 := List.length_eraseIdx_le B.l i
          exact ⟨by show ((B.l.eraseIdx i).length : Int) ≤ B.room; omega, h8.2⟩
        · intro y hy
          exact HR.out.small y (List.mem_of_mem_eraseIdx hy)
      · rintro k' (h | ⟨u, hu, hk'⟩)
        · have := (hrow1.out.lt k' h).1
          exact .inr (by omega)
        · exact .inl ((HF.out k').2 (.inr ⟨u, List.mem_of_mem_eraseIdx hu, hk'⟩))
end Go.Proofs.YteemkceceaabkaaGreat
