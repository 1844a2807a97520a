/- The document's bag: Move. -/
import Derived.Test.YteemkceceaabkaaGreatP4
import Derived.Test.YteemkceceaabkaaGreatI
namespace Go.Proofs.YteemkceceaabkaaGreat
open Go.RowKit Go.Ear
set_option maxHeartbeats 2000000
set_option maxRecDepth 40000

def mv {α : Type} (l : List α) (j : Nat) (x : α) (k : Nat) : List α := if k ≤ j then l.take k else l.take j ++ x :: (l.drop j).take (k - j)
section
variable {α : Type} (l : List α) (j : Nat) (x : α) (k : Nat)
theorem mv_zero : mv l j x 0 = [] := by simp [mv]
theorem mv_le : (mv l j x k).length ≤ k + 1 := by
  unfold mv
  split
  · simp; omega
  · simp; omega
theorem mv_len {β : Type} (l : List α) (l2 : List β) (j k : Nat) (x : α) (x2 : β) (h : l2.length = l.length) : (mv l2 j x2 k).length = (mv l j x k).length := by
  unfold mv
  split <;> simp [h]
theorem mv_other {y : α} (h : l[k]? = some y) (hk : k ≠ j) : mv l j x (k + 1) = mv l j x k ++ [y] := by
  have hl := (List.getElem?_eq_some_iff.1 h).1
  unfold mv
  rcases Nat.lt_or_gt_of_ne hk with hk | hk
  · rw [if_pos (by omega), if_pos (by omega), List.take_add_one, h]
    rfl
  · rw [if_neg (by omega), if_neg (by omega), show k + 1 - j = (k - j) + 1 by omega, List.take_add_one, List.getElem?_drop, show j + (k - j) = k by omega, h]
    simp
theorem mv_at : mv l j x j = l.take j := by simp [mv]
theorem mv_here {y : α} (h : l[j]? = some y) : mv l j x (j + 1) = (mv l j x j ++ [x]) ++ [y] := by
  have hl := (List.getElem?_eq_some_iff.1 h).1
  rw [mv_at]
  unfold mv
  rw [if_neg (by omega), show j + 1 - j = 0 + 1 by omega, List.take_add_one, List.getElem?_drop, Nat.add_zero, h]
  simp
theorem mv_last (h : l.length = j) : mv l j x (j + 1) = mv l j x j ++ [x] := by
  rw [mv_at]
  unfold mv
  rw [if_neg (by omega), List.drop_of_length_le (by omega)]
  simp
theorem mv_end (h : l.length = k) (hk : j < k) : mv l j x (k + 1) = mv l j x k := by
  unfold mv
  rw [if_neg (by omega), if_neg (by omega), List.take_of_length_le (l := l.drop j) (by rw [List.length_drop]; omega), List.take_of_length_le (l := l.drop j) (by rw [List.length_drop]; omega)]
theorem mv_all (hj : j ≤ l.length) : mv l j x (l.length + 1) = l.insertIdx j x := by
  unfold mv
  rw [if_neg (by omega), List.take_of_length_le (l := l.drop j) (by rw [List.length_drop]; omega)]
  induction l generalizing j with
  | nil => obtain rfl : j = 0 := by simpa using hj
           rfl
  | cons a l ih =>
    cases j with
    | zero => rfl
    | succ j => simp [ih j (by simpa using hj)]
end
theorem arr_set2 (cs : Array Value) (o : Nat) (a b d : Value) : (((cs.setIfInBounds o a).setIfInBounds (o + 1) d).setIfInBounds o b) = (cs.setIfInBounds o b).setIfInBounds (o + 1) d := by
  apply Array.ext_getElem?
  intro k
  simp only [Array.getElem?_setIfInBounds, Array.size_setIfInBounds]
  by_cases h1 : o = k
  · subst h1
    simp
  · simp [h1]

theorem IsRef.small {w : World} {lb off : Nat} {cs : Array Value} {t : TypeId} {B : BagS} {F : Nat → Prop} (h : IsRef w lb off cs t B F) : ∀ g ∈ B.l, g.data.length ≤ 1024 := by
  obtain ⟨gs, vs, hr, _⟩ := h
  exact hr.small
theorem IsRef.fits {w : World} {lb off : Nat} {cs : Array Value} {t : TypeId} {B : BagS} {F : Nat → Prop} (h : IsRef w lb off cs t B F) : (B.l.length : Int) ≤ B.room ∧ B.room ≤ 65536 := by
  obtain ⟨gs, vs, hr, _⟩ := h
  exact hr.fits
theorem IsRef.lb_lt {w : World} {lb off : Nat} {cs : Array Value} {t : TypeId} {B : BagS} {F : Nat → Prop} (h : IsRef w lb off cs t B F) : lb < w.heap.size := by
  obtain ⟨gs, vs, hr, _⟩ := h
  exact (Array.getElem?_eq_some_iff.1 hr.blk).1

theorem moveR_bad (lb off : Nat) (cs : Array Value) (t : TypeId) (B : BagS) (F : Nat → Prop) (i j : Int) (w : World) (hB : IsRef w lb off cs t B F) (h : (i < 0 ∨ (B.l.length : Int) ≤ i) ∨ ((0 ≤ i ∧ i < (B.l.length : Int)) ∧ (j < 0 ∨ (B.l.length : Int) ≤ j))) :
    Calls Tryz.prog 91 #[.pointer (some ⟨lb, off, none⟩), i64 i, i64 j] w (Gr (i64 91) w) := by
  have hh1 := fun W h => has_any lb off cs t B F i W h
  rcases h with h | ⟨h, h'⟩
  · rw [show decide (0 ≤ i ∧ i < (B.l.length : Int)) = false from by simp; omega] at hh1
    go_enter Tryz.func91, Tryz.ntmps91
    go_wp2_with (go_at_call 127; refine (hh1 _ (hB.grow (by repeat (with_reducible first | exact Chg.refl _ _ | refine chg_m ?_ _ | refine chg_g ?_ _ | refine chg_alloc ?_ _ | refine chg_drew ?_ | refine chg_drewN ?_ _ | refine chg_set ?_ _ _ _)))).mono ?_; rintro e w' ⟨rfl, g1, rfl⟩)
    go_ret
    exact gr_mk rfl (by repeat (with_reducible first | exact Chg.refl _ _ | refine chg_m ?_ _ | refine chg_g ?_ _ | refine chg_alloc ?_ _ | refine chg_drew ?_ | refine chg_drewN ?_ _ | refine chg_set ?_ _ _ _))
  · have hh2 := fun W h => has_any lb off cs t B F j W h
    rw [show decide (0 ≤ i ∧ i < (B.l.length : Int)) = true from by simp; omega] at hh1
    rw [show decide (0 ≤ j ∧ j < (B.l.length : Int)) = false from by simp; omega] at hh2
    go_enter Tryz.func91, Tryz.ntmps91
    go_wp2_with (go_at_call 127; (first | (with_reducible refine (hh1 _ ?_).mono ?_) | (with_reducible refine (hh2 _ ?_).mono ?_)); (exact hB.grow (by repeat (with_reducible first | exact Chg.refl _ _ | refine chg_m ?_ _ | refine chg_g ?_ _ | refine chg_alloc ?_ _ | refine chg_drew ?_ | refine chg_drewN ?_ _ | refine chg_set ?_ _ _ _))); rintro e w' ⟨rfl, g1, rfl⟩)
    go_ret
    exact gr_mk rfl (by repeat (with_reducible first | exact Chg.refl _ _ | refine chg_m ?_ _ | refine chg_g ?_ _ | refine chg_alloc ?_ _ | refine chg_drew ?_ | refine chg_drewN ?_ _ | refine chg_set ?_ _ _ _))

theorem moveR_good (lb off : Nat) (cs : Array Value) (t : TypeId) (i j : Nat) (B : BagS) (F : Nat → Prop) (w : World) (hB : IsRef w lb off cs t B F) (x : Gm) (hx : B.l[i]? = some x) (hj : j < B.l.length) :
    Calls Tryz.prog 91 #[.pointer (some ⟨lb, off, none⟩), i64 i, i64 j] w (RefTo w lb off cs t { B with l := (B.l.eraseIdx i).insertIdx j x } F (i64 0)) := by
  have hi : i < B.l.length := (List.getElem?_eq_some_iff.1 hx).1
  have hh1 := fun W h => has_any lb off cs t B F (i : Int) W h
  have hh2 := fun W h => has_any lb off cs t B F (j : Int) W h
  rw [show decide (0 ≤ (i : Int) ∧ (i : Int) < (B.l.length : Int)) = true from by simp; omega] at hh1
  rw [show decide (0 ≤ (j : Int) ∧ (j : Int) < (B.l.length : Int)) = true from by simp; omega] at hh2
  have htake := fun W h => takeR_good lb off cs t i B F W h x hx
  have hsm := hB.small x (List.mem_of_getElem? hx)
  have hfit := hB.fits
  have hlb0 := hB.lb_lt
  have HSM := Lib.hid hsm
  have hL : (B.l.eraseIdx i).length = B.l.length - 1 := List.length_eraseIdx_of_lt hi
  generalize B.l.eraseIdx i = L at *
  go_enter Tryz.func91, Tryz.ntmps91
  go_wp2_with (first | (go_at_call 127; (first | (with_reducible refine (hh1 _ ?_).mono ?_) | (with_reducible refine (hh2 _ ?_).mono ?_)); (exact hB.grow (by repeat (with_reducible first | exact Chg.refl _ _ | refine chg_m ?_ _ | refine chg_g ?_ _ | refine chg_alloc ?_ _ | refine chg_drew ?_ | refine chg_drewN ?_ _ | refine chg_set ?_ _ _ _))); rintro e w' ⟨rfl, g1, rfl⟩) | (go_at_call 87; refine (htake _ (hB.grow (by repeat (with_reducible first | exact Chg.refl _ _ | refine chg_m ?_ _ | refine chg_g ?_ _ | refine chg_alloc ?_ _ | refine chg_drew ?_ | refine chg_drewN ?_ _ | refine chg_set ?_ _ _ _)))).mono ?_; rintro e w' ⟨A, c, ⟨rfl, m, gs0, F', rfl, hB', hF'⟩, hd, hA⟩))
  have hCM : Chg (fun k => k = lb ∨ F k) w m.w := Chg.trans (G := fun k => k = lb ∨ F k) (Chg.mono (F := Noth) (by repeat (with_reducible first | exact Chg.refl _ _ | refine chg_m ?_ _ | refine chg_g ?_ _ | refine chg_alloc ?_ _ | refine chg_drew ?_ | refine chg_drewN ?_ _ | refine chg_set ?_ _ _ _)) fun _ _ e => e.elim) m.h fun _ _ e => e
  have hFW : ∀ k, F' k → F k ∨ w.heap.size ≤ k := fun k hk => (hF' k hk).imp_right fun h => Nat.le_trans (Chg.size (F := Noth) (by repeat (with_reducible first | exact Chg.refl _ _ | refine chg_m ?_ _ | refine chg_g ?_ _ | refine chg_alloc ?_ _ | refine chg_drew ?_ | refine chg_drewN ?_ _ | refine chg_set ?_ _ _ _))) h
  clear hF' hh1 hh2 htake hB
  generalize m.w = M at hB' hd hCM ⊢
  generalize hW : M.alloc (.cells #[i64 x.id, i64 x.fr, i64 x.to, .slice A x.data.length c] 110) = X
  have hX : Chg Noth M X := by rw [← hW]; repeat (with_reducible first | exact Chg.refl _ _ | refine chg_m ?_ _ | refine chg_g ?_ _ | refine chg_alloc ?_ _ | refine chg_drew ?_ | refine chg_drewN ?_ _ | refine chg_set ?_ _ _ _)
  have hb7 : X.heap[M.heap.size]? = some (.cells #[i64 x.id, i64 x.fr, i64 x.to, .slice A x.data.length c] 110 (0, 0)) := by rw [← hW]; exact heap_alloc_new _ _
  have hl7 : M.heap.size < X.heap.size := (Array.getElem?_eq_some_iff.1 hb7).1
  obtain ⟨b7, hb7e⟩ : ∃ b7, b7 = M.heap.size := ⟨_, rfl⟩
  rw [← hb7e] at hb7 hl7 ⊢
  obtain ⟨gs1, vs, hr, hFr⟩ := hB'
  have hown : M.ownsRow 0 110 4 gs1 L.length (flat L vs) := hr.own
  obtain ⟨A2, cap2, rfl⟩ := own_shape hown
  obtain ⟨c0, c1, c2, f0, hlb⟩ := hr.cells
  have f1 := f0 off
  have hvl : vs.length = L.length := hr.len
  have hblk := hr.blk
  have hle : L.length ≤ 65536 := by omega
  have hjn : j ≤ L.length := by omega
  have hnlb : ¬ b7 = lb := by omega
  have HR := Lib.hid hr
  have HO := Lib.hid hown
  have H7 := Lib.hid hb7
  have HX := Lib.hid hX
  have HM := Lib.hid hCM
  have HFR := Lib.hid hFr
  have HFW := Lib.hid hFW
  have HA := Lib.hid hA
  have HD := Lib.hid hd
  have HB := Lib.hid hblk
  have hsz : w.heap.size ≤ b7 := by rw [hb7e]; exact hCM.size
  have hlb7 : lb < b7 := by omega
  obtain ⟨n, hn⟩ : ∃ n, n = L.length := ⟨_, rfl⟩
  rw [← hn] at c0 hle hjn
  have HN := Lib.hid hn
  have HLL := Lib.hid hL
  have HJ := Lib.hid hj
  have HI := Lib.hid hi
  have HXX := Lib.hid hx
  have HFIT := Lib.hid hfit
  have F1 := Lib.hid f1
  have C0 := Lib.hid c0
  clear hW hb7e hr hown hX hCM hFr hFW hA hd hblk hb7 f0 f1 hn hL hj hi hx hfit hsm c0 c1 c2 m
  obtain ⟨i0, hi0, hz0, hz1, hz2⟩ := info_parts info35
  go_loopw [9, 10] (fun l' i' wr => ∃ (k : Nat), k ≤ n + 1 ∧ i' = .int .i64 k ∧ Chg Noth X wr ∧ wr.ownsRow X.heap.size 110 4 l' (mv L j x k).length (flat (mv L j x k) (mv vs j (.slice A x.data.length c) k))) (fun _ i' _ => n + 1 - (intOf i').toNat)
  case atStart => exact ⟨0, Nat.zero_le _, rfl, Chg.refl _ _, by rw [mv_zero, mv_zero]; simpa [flat] using World.ownsRow_nil _ _ _ _⟩
  case round =>
    obtain ⟨k, hk, rfl, hCx, hrow⟩ := hrel
    have hCw : Chg Noth M wr := HX.out.trans hCx fun _ _ e => e
    have hownw := own_chg HO.out hCw fun _ _ e => e
    have d0 : wr.cell? ⟨lb, off, none⟩ = some (.slice A2 n cap2) := (hCw.cell (p := ⟨lb, off, none⟩) hlb fun e => e).trans C0.out
    have j1 : Old lb wr := ⟨Nat.lt_of_lt_of_le hlb hCw.size⟩
    have j7 : Old b7 wr := ⟨Nat.lt_of_lt_of_le hl7 hCx.size⟩
    have b7w : wr.heap[b7]? = some (.cells #[i64 x.id, i64 x.fr, i64 x.to, .slice A x.data.length c] 110 (0, 0)) := (hCx.block _ hl7 fun e => e).trans H7.out
    have x0 : wr.cell? ⟨b7, 0, none⟩ = some (i64 x.id) := by rw [cell_of_row _ _ 0 _ _ _ b7w]; rfl
    have x1 : wr.cell? ⟨b7, 1, none⟩ = some (i64 x.fr) := by rw [cell_of_row _ _ 1 _ _ _ b7w]; rfl
    have x2 : wr.cell? ⟨b7, 2, none⟩ = some (i64 x.to) := by rw [cell_of_row _ _ 2 _ _ _ b7w]; rfl
    have x3 : wr.cell? ⟨b7, 3, none⟩ = some (.slice A x.data.length c) := by rw [cell_of_row _ _ 3 _ _ _ b7w]; rfl
    have HB7 := Lib.hid b7w
    have HCW := Lib.hid hCw
    have HOW := Lib.hid hownw
    clear b7w hCw hownw
    by_cases hlast : k = n + 1
    · subst hlast
      rw [HN.out, mv_all _ _ _ (by have := HN.out; omega), ← hvl, mv_all _ _ _ (by have := HN.out; omega)] at hrow
      obtain ⟨q, hq⟩ : ∃ q, q = (L.insertIdx j x).length := ⟨_, rfl⟩
      rw [← hq] at hrow
      obtain ⟨A1, cap1, rfl⟩ := own_shape hrow
      have HQ := Lib.hid hq
      have q0 : wr.frozen? ⟨lb, off, none⟩ = false := (HCW.out.frozen (p := ⟨lb, off, none⟩) hlb fun e => e).trans F1.out
      have klb : HasCell wr lb off := ⟨by rw [d0]; rfl⟩
      have HROW := Lib.hid hrow
      have HCX := Lib.hid hCx
      clear hq hrow hCx
      go_wp2
      go_ret
      have hZ : Chg (fun q => q = lb) wr (wr.setCell ⟨lb, off, none⟩ (.slice A1 q cap1)) := by
        have mlb : May lb (fun q => q = lb) wr := ⟨.inl rfl⟩
        exact chg_set (Chg.refl _ _) _ _ _
      have hBlk : (wr.setCell ⟨lb, off, none⟩ (.slice A1 q cap1)).heap[lb]? = some (.cells (((cs.setIfInBounds off gs0).setIfInBounds (off + 1) (i64 B.last)).setIfInBounds off (.slice A1 q cap1)) t (0, 0)) := heap_setCell_same wr lb off _ _ _ ((HCW.out.block lb hlb fun e => e).trans HB.out)
      generalize wr.setCell ⟨lb, off, none⟩ (.slice A1 q cap1) = W3 at *
      have hszX := HX.out.size
      have hlen : (L.insertIdx j x).length = L.length + 1 := by rw [List.length_insertIdx_of_le_length (by have := HN.out; omega)]
      have hold : ∀ (y : Gm) (u : Value), M.ownsRow 0 5 1 u y.data.length (bv y.data) → W3.ownsRow 0 5 1 u y.data.length (bv y.data) := fun y u h =>
        own_chg (own_chg h HCW.out fun _ _ e => e) hZ fun k' hk' e => own_ne h HB.out (Ne.symm HR.out.ne.2) k' hk' e
      refine ⟨rfl, ⟨W3, ((HM.out.trans (HCW.out.mono (G := fun k => k = lb ∨ F k) fun _ _ e => e.elim) fun _ _ e => e).trans hZ fun q' hq' e => .inl e)⟩, .slice A1 q cap1, footR (.slice A1 q cap1) (vs.insertIdx j (.slice A x.data.length c)), rfl, ⟨.slice A1 q cap1, vs.insertIdx j (.slice A x.data.length c), ?_, fun _ => Iff.rfl⟩, ?_⟩
      · show RefRep W3 lb off ((cs.setIfInBounds off (.slice A1 q cap1)).setIfInBounds (off + 1) (i64 B.last)) t _ _ _
        rw [← arr_set2 cs off gs0]
        have hcs := (Array.getElem?_eq_some_iff.1 HR.out.c2).1
        have hr1 := HR.out.c1
        have hr2 := HR.out.c2
        have hlst := HR.out.lasts
        have hsml := HR.out.small
        refine ⟨hBlk, HR.out.ne, ?_, ?_, ?_, ?_, ?_, ?_, ?_, hlst, ?_⟩
        · rw [Array.getElem?_setIfInBounds_self_of_lt (by omega)]
        · rw [Array.getElem?_setIfInBounds_ne (by omega)]
          exact hr1
        · rw [Array.getElem?_setIfInBounds_ne (by omega)]
          exact hr2
        · show W3.ownsRow 0 110 4 _ (L.insertIdx j x).length _
          rw [← HQ.out]
          exact own_base (own_chg HROW.out hZ fun k' hk' e => by have := (HROW.out.lt k' hk').1; omega) (Nat.zero_le _)
        · show (vs.insertIdx j _).length = (L.insertIdx j x).length
          rw [hlen, List.length_insertIdx_of_le_length (by have := HN.out; omega), hvl]
        · intro k' y u hy hu
          rcases insert_get (by have := HN.out; omega) hy with ⟨h1, rfl⟩ | ⟨h1, h2⟩
          · rcases insert_get (by have := HN.out; omega) hu with ⟨_, rfl⟩ | ⟨h3, _⟩
            · exact hold _ _ HD.out
            · exact absurd h1 h3
          · rcases insert_get (by have := HN.out; omega) hu with ⟨h3, rfl⟩ | ⟨_, h4⟩
            · exact absurd h3 h1
            · exact hold _ _ (HR.out.data _ y u h2 h4)
        · have h8 := HFIT.out
          have h9 := HLL.out
          have h10 := HI.out
          exact ⟨by show ((L.insertIdx j x).length : Int) ≤ B.room; rw [hlen]; omega, h8.2⟩
        · intro y hy
          rcases (List.mem_insertIdx (by have := HN.out; omega)).1 hy with rfl | h
          · exact HSM.out
          · exact hsml y h
      · rintro k' (h | ⟨u, hu, hk'⟩)
        · have := (HROW.out.lt k' h).1
          exact .inr (by omega)
        · rcases (List.mem_insertIdx (by have := HN.out; omega)).1 hu with rfl | h
          · exact .inl (HA.out k' hk')
          · exact HFW.out k' ((HFR.out k').2 (.inr ⟨u, h, hk'⟩))
    · have hkn1 : k ≤ n := by omega
      by_cases hkn : k < n
      · have hkl : k < L.length := by have := HN.out; omega
        obtain ⟨y, hy⟩ : ∃ y, L[k]? = some y := ⟨_, List.getElem?_eq_getElem hkl⟩
        have hu : vs[k]? = some (vs[k]'(by rw [hvl]; exact hkl)) := List.getElem?_eq_getElem _
        generalize vs[k]'(by rw [hvl]; exact hkl) = u at hu
        have hdu : M.ownsRow 0 5 1 u y.data.length (bv y.data) := HR.out.data k y u hy hu
        obtain ⟨D, dc, rfl⟩ := own_shape hdu
        have hownw := HOW.out
        obtain ⟨g, cap3, eg, _, hg⟩ := hownw.form (by omega)
        have eg2 : A2 = some ⟨g, 0, none⟩ ∧ cap2 = cap3 := by cases eg; exact ⟨rfl, rfl⟩
        obtain ⟨rfl, rfl⟩ := eg2
        clear eg
        obtain ⟨b0, b1, b2, b3⟩ := gram_cells hownw hvl hy hu
        have jg : Old g wr := ⟨hg⟩
        by_cases hkj : k = j
        · subst hkj
          have e1 := mv_here L k x hy
          have e2 := mv_here vs k (.slice A x.data.length c) hu
          obtain ⟨q, hq⟩ : ∃ q, q = (mv L k x k).length := ⟨_, rfl⟩
          have hlen : q ≤ k + 1 := by rw [hq]; exact mv_le _ _ _ _
          have hll : (mv vs k (.slice A x.data.length c) k).length = (mv L k x k).length := mv_len _ _ _ _ _ _ hvl
          rw [← hq] at hrow
          obtain ⟨A1, cap1, rfl⟩ := own_shape hrow
          have HQ := Lib.hid hq
          have HL := Lib.hid hll
          have HC := Lib.hid hCx
          have E1 := Lib.hid e1
          have E2 := Lib.hid e2
          have HG := Lib.hid hownw
          have HY := Lib.hid hy
          have HU := Lib.hid hu
          clear hq hll e1 e2 hy hu hownw hdu
          go_wp2_with (first | (at_builtin; refine wpList_append_own _ rfl _ _ 58 rfl X.heap.size 110 i0 _ 4 48 Tryz.underlying58 hi0 hz0 hz1 hz2 rfl (by decide) (.slice A3 (q + 1) cap4) (q + 1) _ rfl (own_chg (F := Noth) hown1 (by repeat (with_reducible first | exact Chg.refl _ _ | refine chg_m ?_ _ | refine chg_g ?_ _ | refine chg_alloc ?_ _ | refine chg_drew ?_ | refine chg_drewN ?_ _ | refine chg_set ?_ _ _ _)) (fun _ _ e => e)) ⟨_, 0, none⟩ 1 1 [i64 y.id, i64 y.fr, i64 y.to, .slice D y.data.length dc] rfl rfl (World.news_of_block (cs := #[i64 y.id, i64 y.fr, i64 y.to, .slice D y.data.length dc]) (heap_alloc_hs _ _ _)) (by intro u hu; simp at hu; rcases hu with rfl | rfl | rfl | rfl <;> rfl) (by simp only [maxLen]; omega) (by omega) (by have := hC1.size; simp <;> omega) ?_; intro v2 w2 hown2 hg2 _) | (at_builtin; refine wpList_append_own _ rfl _ _ 58 rfl X.heap.size 110 i0 _ 4 48 Tryz.underlying58 hi0 hz0 hz1 hz2 rfl (by decide) (.slice A1 q cap1) q _ rfl (own_chg (F := Noth) hrow (by repeat (with_reducible first | exact Chg.refl _ _ | refine chg_m ?_ _ | refine chg_g ?_ _ | refine chg_alloc ?_ _ | refine chg_drew ?_ | refine chg_drewN ?_ _ | refine chg_set ?_ _ _ _)) (fun _ _ e => e)) ⟨_, 0, none⟩ 1 1 [i64 x.id, i64 x.fr, i64 x.to, .slice A x.data.length c] rfl rfl (World.news_of_block (cs := #[i64 x.id, i64 x.fr, i64 x.to, .slice A x.data.length c]) (heap_alloc_hs _ _ _)) (by intro u hu; simp at hu; rcases hu with rfl | rfl | rfl | rfl <;> rfl) (by simp only [maxLen]; omega) (by omega) (by have := HC.out.size; simp <;> omega) ?_; intro v1 w1 hown1 hg1 _; obtain ⟨A3, cap4, rfl⟩ := own_shape hown1; have hC1 : Chg Noth X w1 := (HC.out.trans (show Chg Noth wr _ from chg_alloc (Chg.refl _ _) _) fun _ _ e => e).trans (Chg.of_grown hg1) (fun j hj e => by have := (hrow.lt j e).1; omega); have hCm1 : Chg Noth M w1 := HX.out.trans hC1 fun _ _ e => e; have HG1 := Lib.hid (own_chg HO.out hCm1 fun _ _ e => e); have d1 : w1.cell? ⟨lb, off, none⟩ = some (.slice (some ⟨g, 0, none⟩) n cap2) := (hCm1.cell (p := ⟨lb, off, none⟩) hlb fun e => e).trans C0.out; have jl1 : Old lb w1 := ⟨Nat.lt_of_lt_of_le hlb hCm1.size⟩; obtain ⟨e0, e1, e2, e3⟩ := gram_cells HG1.out hvl HY.out HU.out; have jg1 : Old g w1 := ⟨(HG1.out.lt g rfl).2⟩))
          have hC2 : Chg Noth X w2 := (hC1.trans (show Chg Noth w1 _ from chg_alloc (Chg.refl _ _) _) fun _ _ e => e).trans (Chg.of_grown hg2) fun j hj e => by have := (hown1.lt j e).1; omega
          go_roundw
          case rel =>
            refine ⟨k + 1, by omega, by go_num, hC2, ?_⟩
            rw [E1.out, E2.out, flat_snoc _ _ _ _ (by simp [HL.out]), flat_snoc _ _ _ _ HL.out, List.length_append, List.length_append, ← HQ.out]
            exact hown2
          case measure => simp [intOf]; omega
        · have e1 := mv_other L j x k hy hkj
          have e2 := mv_other vs j (.slice A x.data.length c) k hu hkj
          have hne : ((k : Int) == (j : Int)) = false := beq_eq_false_iff_ne.2 (by omega)
          obtain ⟨q, hq⟩ : ∃ q, q = (mv L j x k).length := ⟨_, rfl⟩
          have hlen : q ≤ k + 1 := by rw [hq]; exact mv_le _ _ _ _
          have hll : (mv vs j (.slice A x.data.length c) k).length = (mv L j x k).length := mv_len _ _ _ _ _ _ hvl
          rw [← hq] at hrow
          obtain ⟨A1, cap1, rfl⟩ := own_shape hrow
          have HQ := Lib.hid hq
          have HL := Lib.hid hll
          have HC := Lib.hid hCx
          have E1 := Lib.hid e1
          have E2 := Lib.hid e2
          have HG := Lib.hid hownw
          clear hq hll e1 e2 hy hu hownw hdu
          go_wp2_with (at_builtin; refine wpList_append_own _ rfl _ _ 58 rfl X.heap.size 110 i0 _ 4 48 Tryz.underlying58 hi0 hz0 hz1 hz2 rfl (by decide) (.slice A1 q cap1) q _ rfl (own_chg (F := Noth) hrow (by repeat (with_reducible first | exact Chg.refl _ _ | refine chg_m ?_ _ | refine chg_g ?_ _ | refine chg_alloc ?_ _ | refine chg_drew ?_ | refine chg_drewN ?_ _ | refine chg_set ?_ _ _ _)) (fun _ _ e => e)) ⟨_, 0, none⟩ 1 1 [i64 y.id, i64 y.fr, i64 y.to, .slice D y.data.length dc] rfl rfl (World.news_of_block (cs := #[i64 y.id, i64 y.fr, i64 y.to, .slice D y.data.length dc]) (heap_alloc_hs _ _ _)) (by intro u hu; simp at hu; rcases hu with rfl | rfl | rfl | rfl <;> rfl) (by simp only [maxLen]; omega) (by omega) (by have := HC.out.size; simp <;> omega) ?_; intro v1 w1 hown1 hg1 _)
          have hC1 : Chg Noth X w1 := (HC.out.trans (show Chg Noth wr _ from chg_alloc (Chg.refl _ _) _) fun _ _ e => e).trans (Chg.of_grown hg1) fun j hj e => by have := (hrow.lt j e).1; omega
          go_roundw
          case rel =>
            refine ⟨k + 1, by omega, by go_num, hC1, ?_⟩
            rw [E1.out, E2.out, flat_snoc _ _ _ _ HL.out, List.length_append, ← HQ.out]
            exact hown1
          case measure => simp [intOf]; omega
      · obtain rfl : k = n := by omega
        by_cases hkj : k = j
        · subst hkj
          have e1 := mv_last L k x (by have := HN.out; omega)
          have e2 := mv_last vs k (.slice A x.data.length c) (by have := HN.out; omega)
          obtain ⟨q, hq⟩ : ∃ q, q = (mv L k x k).length := ⟨_, rfl⟩
          have hlen : q ≤ k + 1 := by rw [hq]; exact mv_le _ _ _ _
          have hll : (mv vs k (.slice A x.data.length c) k).length = (mv L k x k).length := mv_len _ _ _ _ _ _ hvl
          rw [← hq] at hrow
          obtain ⟨A1, cap1, rfl⟩ := own_shape hrow
          have HQ := Lib.hid hq
          have HL := Lib.hid hll
          have HC := Lib.hid hCx
          have E1 := Lib.hid e1
          have E2 := Lib.hid e2
          clear hq hll e1 e2
          go_wp2_with (at_builtin; refine wpList_append_own _ rfl _ _ 58 rfl X.heap.size 110 i0 _ 4 48 Tryz.underlying58 hi0 hz0 hz1 hz2 rfl (by decide) (.slice A1 q cap1) q _ rfl (own_chg (F := Noth) hrow (by repeat (with_reducible first | exact Chg.refl _ _ | refine chg_m ?_ _ | refine chg_g ?_ _ | refine chg_alloc ?_ _ | refine chg_drew ?_ | refine chg_drewN ?_ _ | refine chg_set ?_ _ _ _)) (fun _ _ e => e)) ⟨_, 0, none⟩ 1 1 [i64 x.id, i64 x.fr, i64 x.to, .slice A x.data.length c] rfl rfl (World.news_of_block (cs := #[i64 x.id, i64 x.fr, i64 x.to, .slice A x.data.length c]) (heap_alloc_hs _ _ _)) (by intro u hu; simp at hu; rcases hu with rfl | rfl | rfl | rfl <;> rfl) (by simp only [maxLen]; omega) (by omega) (by have := HC.out.size; simp <;> omega) ?_; intro v1 w1 hown1 hg1 _; obtain ⟨A3, cap4, rfl⟩ := own_shape hown1; have hC1 : Chg Noth X w1 := (HC.out.trans (show Chg Noth wr _ from chg_alloc (Chg.refl _ _) _) fun _ _ e => e).trans (Chg.of_grown hg1) (fun j hj e => by have := (hrow.lt j e).1; omega); have hCm1 : Chg Noth M w1 := HX.out.trans hC1 fun _ _ e => e; have d1 := (hCm1.cell (p := ⟨lb, off, none⟩) hlb fun e => e).trans C0.out; have jl1 : Old lb w1 := ⟨Nat.lt_of_lt_of_le hlb hCm1.size⟩)
          go_roundw
          case rel =>
            refine ⟨k + 1, by omega, by go_num, hC1, ?_⟩
            rw [E1.out, E2.out, flat_snoc _ _ _ _ HL.out, List.length_append, ← HQ.out]
            exact hown1
          case measure => simp [intOf]
        · have e1 := mv_end L j x k (by have := HN.out; omega) (by omega)
          have e2 := mv_end vs j (.slice A x.data.length c) k (by have := HN.out; omega) (by omega)
          have hne : ((k : Int) == (j : Int)) = false := beq_eq_false_iff_ne.2 (by omega)
          rw [← e1, ← e2] at hrow
          have HROW := Lib.hid hrow
          have HCX := Lib.hid hCx
          clear hrow hCx e1 e2
          go_wp2
          go_roundw
          case rel => exact ⟨k + 1, by omega, by go_num, HCX.out, HROW.out⟩
          case measure => simp [intOf]

theorem moveR_any (lb off : Nat) (cs : Array Value) (t : TypeId) (B : BagS) (F : Nat → Prop) (i j : Int) (w : World) (hB : IsRef w lb off cs t B F) :
    Calls Tryz.prog 91 #[.pointer (some ⟨lb, off, none⟩), i64 i, i64 j] w (RefTo w lb off cs t (moveS B i j).1 F (i64 (moveS B i j).2)) := by
  by_cases h : (i < 0 ∨ (B.l.length : Int) ≤ i) ∨ ((0 ≤ i ∧ i < (B.l.length : Int)) ∧ (j < 0 ∨ (B.l.length : Int) ≤ j))
  · have e : moveS B i j = (B, 91) := by
      unfold moveS
      rw [if_pos]
      simp only [askedF]
      split
      · rfl
      · rw [if_pos (by omega)]
    rw [e]
    exact (moveR_bad lb off cs t B F i j w hB h).mono fun e w' hg => RefTo.same hg hB
  · obtain ⟨i, rfl⟩ := Int.eq_ofNat_of_zero_le (show 0 ≤ i by omega)
    obtain ⟨j, rfl⟩ := Int.eq_ofNat_of_zero_le (show 0 ≤ j by omega)
    have hi : i < B.l.length := by omega
    have e : moveS B (i : Int) (j : Int) = ({ B with l := (B.l.eraseIdx i).insertIdx j B.l[i] }, 0) := by
      unfold moveS
      rw [if_neg]
      · simp [List.getElem?_eq_getElem hi]
      · simp only [askedF]
        rw [if_neg (by omega), if_neg (by omega)]
        decide
    rw [e]
    exact moveR_good lb off cs t i j B F w hB _ (List.getElem?_eq_getElem hi) (by omega)
end Go.Proofs.YteemkceceaabkaaGreat
