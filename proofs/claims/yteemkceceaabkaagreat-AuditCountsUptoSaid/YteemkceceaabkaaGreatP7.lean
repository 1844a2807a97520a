/- Bytes that are lent with marks behind them. -/
import Derived.Test.YteemkceceaabkaaGreatBc
import Derived.Laws.CopyOwn
namespace Go.Proofs.YteemkceceaabkaaGreat
open Go.RowKit Go.Ear
set_option maxHeartbeats 1000000
set_option maxRecDepth 40000

def lrow (l : List UInt8) (k : Nat) : List Value := bv (l ++ (List.replicate k 0xA7 ++ List.replicate (9 - k) 0))
theorem lrow_length (l : List UInt8) (k : Nat) (h : k ≤ 9) : (lrow l k).length = l.length + 9 := by
  simp [lrow]
  omega
theorem lrow_set (l : List UInt8) (k : Nat) (h : k < 9) : (lrow l k).set (l.length + k) (.int .u8 167) = lrow l (k + 1) := by
  have hv : (Value.int .u8 167) = .int .u8 ((0xA7 : UInt8).toNat : Int) := rfl
  rw [hv]
  unfold lrow
  simp only [bv]
  rw [← List.map_set, List.set_append_right _ _ (by omega), Nat.add_sub_cancel_left, List.set_append_right _ _ (by simp)]
  congr 2
  obtain ⟨m, hm⟩ : ∃ m, 9 - k = m + 1 := ⟨8 - k, by omega⟩
  rw [hm, show 9 - (k + 1) = m by omega]
  rw [List.replicate_succ (n := m), List.replicate_succ' (n := k)]
  simp

theorem made_row {w1 : World} {base g N : Nat} {e : TypeId} {z : Value} (h : w1.ownsRow base e 1 (.slice (some ⟨g, 0, none⟩) N N) N (madeCells #[z] (N * 1)).toList) : w1.heap[g]? = some (.cells (List.replicate N z).toArray e (0, 0)) := by
  obtain ⟨_, h2⟩ := h
  rcases h2 with ⟨h', _⟩ | ⟨g', cap', cur, h', hb, hgc, hnc, hcm, hcs, htake⟩
  · simp at h'
  simp only [Value.slice.injEq, Option.some.injEq, Addr.mk.injEq, and_true, true_and] at h'
  obtain ⟨rfl, rfl⟩ := h'
  have hcur : cur = (List.replicate N z).toArray := by
    rw [List.take_of_length_le (by simp; omega), Nat.mul_one, toList_madeCells_one] at htake
    rw [← htake]
  rw [← hcur]
  exact hgc

theorem lent_any (A : Option Addr) (c : Nat) (l : List UInt8) (w : World) (h : SL w (.slice A l.length c) l.length 1 (bv l)) (hn : l.length ≤ 100000) :
    Calls Tryz.prog 80 #[.slice A l.length c] w fun e w' => ∃ g, e = .returned (.slice (some ⟨g, 0, none⟩) l.length (l.length + 9)) ∧ Own1 w' w.heap.size (.slice (some ⟨g, 0, none⟩) (l.length + 9) (l.length + 9)) (l ++ List.replicate 9 0xA7) ∧ ∃ g : Grows w, w' = g.w := by
  obtain ⟨i0, hi0, hz0, hz1, hz2⟩ := info_parts info5
  obtain ⟨n, hln⟩ : ∃ n, n = l.length := ⟨_, rfl⟩
  rw [← hln] at h hn ⊢
  have HL := Lib.hid hln
  have HS := Lib.hid h
  clear hln h
  go_enter Tryz.func80, Tryz.ntmps80
  rcases A with _ | ad
  · have hz : n = 0 := by
      obtain ⟨_, A', c', e, h0, _⟩ := HS.out
      cases e
      exact (h0 rfl).1
    have HZ := Lib.hid hz
    clear hz
    go_wp2_with (first | (at_make; refine wpList_make_full _ rfl _ _ 68 rfl w.heap.size 5 i0 _ 1 Tryz.underlying68 hi0 hz0 hz1 _ _ _ _ (n + 9) rfl rfl (by omega) (by omega) (by rw [hz2]; omega) (by unfold maxLen; omega) (by simp) ?_; intro w1 hown1 hg1; have hgc := made_row (z := .int .u8 0) hown1; have hC1 : Chg Noth w w1 := (Chg.of_grown hg1).mono (G := Noth) (fun _ _ e => by simp at e)) | (refine wpList_copy_nothing rfl _ _ 68 68 rfl 5 Tryz.underlying68 (by kernel_rfl) _ _ _ _ _ _ rfl rfl (by rw [HZ.out]; rfl) ?_; have hb : w1.heap[w.heap.size]? = some (.cells (lrow l 0).toArray 5 (0, 0)) := (by rw [hgc, HZ.out, List.eq_nil_of_length_eq_zero (HL.out.symm.trans HZ.out)]; rfl); have hW := hC1; clear hgc hown1 hg1 hC1))
    obtain ⟨g, hg⟩ : ∃ g, g = w.heap.size := ⟨_, rfl⟩
    rw [← hg] at hb ⊢
    have mg : May g Noth w := ⟨.inr (by omega)⟩
    have HG := Lib.hid hg
    have HW := Lib.hid hW
    have HBk := Lib.hid hb
    clear hg hW hb
    go_loopw [4] (fun i' wr => ∃ (k : Nat), k ≤ 9 ∧ i' = .int .i64 ((n + k : Nat) : Int) ∧ Chg Noth w wr ∧ wr.heap[g]? = some (.cells (lrow l k).toArray 5 (0, 0))) (fun i' _ => n + 9 - (intOf i').toNat)
    case atStart => exact ⟨0, Nat.zero_le _, rfl, HW.out, HBk.out⟩
    case round =>
      obtain ⟨k, hk, rfl, hCx, hbx⟩ := hrel
      have HC := Lib.hid hCx
      have HX := Lib.hid hbx
      have f0 : wr.frozen? ⟨g, n + k, none⟩ = false := frozen_of_row _ _ _ _ _ hbx
      have hsz : (lrow l k).length = n + 9 := by rw [lrow_length _ _ hk, ← HL.out]
      have c0 : ∃ u, wr.cell? ⟨g, n + k, none⟩ = some u ∨ k = 9 := by
        by_cases h9 : k = 9
        · exact ⟨.bool true, .inr h9⟩
        · refine ⟨(lrow l k)[n + k]'(by omega), .inl ?_⟩
          rw [cell_of_row _ _ _ _ _ _ hbx]
          simp
      have jg : Old g wr := ⟨(Array.getElem?_eq_some_iff.1 hbx).1⟩
      have HS2 := Lib.hid hsz
      clear hCx hbx hsz
      by_cases hk9 : k = 9
      · subst hk9
        clear c0
        go_wp2
        go_ret
        refine ⟨g, rfl, ?_, muts_ex HC.out⟩
        have e9 : (lrow l 9) = bv (l ++ List.replicate 9 0xA7) := by simp [lrow]
        have hx := HX.out
        rw [e9] at hx
        have hl9 : (l ++ List.replicate 9 (0xA7 : UInt8)).length = n + 9 := by simp [← HL.out]
        show wr.ownsRow w.heap.size 5 1 _ (l ++ List.replicate 9 (0xA7 : UInt8)).length _
        rw [hl9]
        refine ⟨by rw [bv_length, hl9, Nat.mul_one], .inr ⟨g, n + 9, _, rfl, Nat.le_of_eq HG.out.symm, hx, Nat.le_refl _, by unfold maxLen; omega, by rw [List.size_toArray, bv_length, hl9, Nat.mul_one], ?_⟩⟩
        rw [List.take_of_length_le (by rw [bv_length, hl9, Nat.mul_one]; exact Nat.le_refl _)]
      · obtain ⟨u, c0⟩ := c0
        have c0 := c0.resolve_right hk9
        have klb : HasCell wr g (n + k) := ⟨by rw [c0]; rfl⟩
        have hlt : k < 9 := by omega
        go_wp2
        go_roundw
        case rel =>
          refine ⟨k + 1, by omega, by go_num, chg_set HC.out _ _ _, ?_⟩
          rw [heap_setCell_same wr g (n + k) _ _ _ HX.out, List.setIfInBounds_toArray, HL.out, lrow_set l k hlt]
        case measure => simp [intOf]; omega

  go_wp2_with (first | (at_make; refine wpList_make_full _ rfl _ _ 68 rfl w.heap.size 5 i0 _ 1 Tryz.underlying68 hi0 hz0 hz1 _ _ _ _ (n + 9) rfl rfl (by omega) (by omega) (by rw [hz2]; omega) (by unfold maxLen; omega) (by simp) ?_; intro w1 hown1 hg1; have hgc := made_row (z := .int .u8 0) hown1; have hC1 : Chg Noth w w1 := (Chg.of_grown hg1).mono (G := Noth) (fun _ _ e => by simp at e)) | (refine wpList_copy_own rfl _ _ 68 68 rfl 5 Tryz.underlying68 (by kernel_rfl) w.heap.size 0 (n + 9) (n + 9) ad n c rfl rfl _ 5 hgc (bv l) (by rw [bv_length, ← HL.out]; exact (Nat.min_eq_left (by omega)).symm) ((HS.out.grow hC1).addr) (by simp [← HL.out]) (bv_one l) ?_; generalize hWW : w1.setRow _ _ = W; have hb : W.heap[w.heap.size]? = some (.cells (lrow l 0).toArray 5 (0, 0)) := (by rw [← hWW, setRow_heap _ _ _ _ _ _ hgc]; simp [lrow, bv, ← HL.out]); have hW : Chg Noth w W := Chg.of_below (by rw [← hWW]; exact below_setRow hC1.below (Nat.le_refl _) _); clear hWW hgc hown1 hg1 hC1))
  obtain ⟨g, hg⟩ : ∃ g, g = w.heap.size := ⟨_, rfl⟩
  rw [← hg] at hb ⊢
  have mg : May g Noth w := ⟨.inr (by omega)⟩
  have HG := Lib.hid hg
  have HW := Lib.hid hW
  have HBk := Lib.hid hb
  clear hg hW hb
  go_loopw [4] (fun i' wr => ∃ (k : Nat), k ≤ 9 ∧ i' = .int .i64 ((n + k : Nat) : Int) ∧ Chg Noth w wr ∧ wr.heap[g]? = some (.cells (lrow l k).toArray 5 (0, 0))) (fun i' _ => n + 9 - (intOf i').toNat)
  case atStart => exact ⟨0, Nat.zero_le _, rfl, HW.out, HBk.out⟩
  case round =>
    obtain ⟨k, hk, rfl, hCx, hbx⟩ := hrel
    have HC := Lib.hid hCx
    have HX := Lib.hid hbx
    have f0 : wr.frozen? ⟨g, n + k, none⟩ = false := frozen_of_row _ _ _ _ _ hbx
    have hsz : (lrow l k).length = n + 9 := by rw [lrow_length _ _ hk, ← HL.out]
    have c0 : ∃ u, wr.cell? ⟨g, n + k, none⟩ = some u ∨ k = 9 := by
      by_cases h9 : k = 9
      · exact ⟨.bool true, .inr h9⟩
      · refine ⟨(lrow l k)[n + k]'(by omega), .inl ?_⟩
        rw [cell_of_row _ _ _ _ _ _ hbx]
        simp
    have jg : Old g wr := ⟨(Array.getElem?_eq_some_iff.1 hbx).1⟩
    have HS2 := Lib.hid hsz
    clear hCx hbx hsz
    by_cases hk9 : k = 9
    · subst hk9
      clear c0
      go_wp2
      go_ret
      refine ⟨g, rfl, ?_, muts_ex HC.out⟩
      have e9 : (lrow l 9) = bv (l ++ List.replicate 9 0xA7) := by simp [lrow]
      have hx := HX.out
      rw [e9] at hx
      have hl9 : (l ++ List.replicate 9 (0xA7 : UInt8)).length = n + 9 := by simp [← HL.out]
      show wr.ownsRow w.heap.size 5 1 _ (l ++ List.replicate 9 (0xA7 : UInt8)).length _
      rw [hl9]
      refine ⟨by rw [bv_length, hl9, Nat.mul_one], .inr ⟨g, n + 9, _, rfl, Nat.le_of_eq HG.out.symm, hx, Nat.le_refl _, by unfold maxLen; omega, by rw [List.size_toArray, bv_length, hl9, Nat.mul_one], ?_⟩⟩
      rw [List.take_of_length_le (by rw [bv_length, hl9, Nat.mul_one]; exact Nat.le_refl _)]
    · obtain ⟨u, c0⟩ := c0
      have c0 := c0.resolve_right hk9
      have klb : HasCell wr g (n + k) := ⟨by rw [c0]; rfl⟩
      have hlt : k < 9 := by omega
      go_wp2
      go_roundw
      case rel =>
        refine ⟨k + 1, by omega, by go_num, chg_set HC.out _ _ _, ?_⟩
        rw [heap_setCell_same wr g (n + k) _ _ _ HX.out, List.setIfInBounds_toArray, HL.out, lrow_set l k hlt]
      case measure => simp [intOf]; omega
end Go.Proofs.YteemkceceaabkaaGreat
