/- What was lent is as it was, the marks too. -/
import Derived.Test.YteemkceceaabkaaGreatO
import Derived.Test.YteemkceceaabkaaGreatP7
namespace Go.Proofs.YteemkceceaabkaaGreat
open Go.RowKit Go.Ear
set_option maxHeartbeats 1000000
set_option maxRecDepth 40000

theorem stays_any (base g : Nat) (B : Option Addr) (c : Nat) (l : List UInt8) (w : World) (hown : Own1 w base (.slice (some ⟨g, 0, none⟩) (l.length + 9) (l.length + 9)) (l ++ List.replicate 9 0xA7)) (hB : SL w (.slice B l.length c) l.length 1 (bv l)) (hn : l.length ≤ 100000) :
    Calls Tryz.prog 82 #[.slice (some ⟨g, 0, none⟩) l.length (l.length + 9), .slice B l.length c] w (Gr (.bool true) w) := by
  have hl9 : (l ++ List.replicate 9 (0xA7 : UInt8)).length = l.length + 9 := by simp
  have hown : w.ownsRow base 5 1 (.slice (some ⟨g, 0, none⟩) (l.length + 9) (l.length + 9)) (l.length + 9) (bv (l ++ List.replicate 9 0xA7)) := by
    have := hown
    unfold Own1 at this
    rwa [hl9] at this
  have hg : g < w.heap.size := (hown.lt g rfl).2
  have hA : SL w (.slice (some ⟨g, 0, none⟩) l.length (l.length + 9)) l.length 1 (bv l) := by
    refine ⟨by simp, some ⟨g, 0, none⟩, l.length + 9, rfl, by simp, by omega, fun hp => ⟨g, 0, rfl, hg, fun i u hu => ?_⟩⟩
    have hi : i < l.length := by
      have := (List.getElem?_eq_some_iff.1 hu).1
      simpa using this
    rw [Nat.zero_add, hown.cellAt _ (by omega)]
    simp only [bv, List.map_append]
    rw [List.getElem?_append_left (by simpa using hi)]
    exact hu
  obtain ⟨n, hln⟩ : ∃ n, n = l.length := ⟨_, rfl⟩
  rw [← hln] at hown hB hA hn ⊢
  have hsame := fun W (hW : Chg Noth w W) => sameBytes_any (some ⟨g, 0, none⟩) B (n + 9) c l n hln W (hA.grow hW) (hB.grow hW) (by omega)
  have hcell : ∀ k, k < 9 → w.cell? ⟨g, n + k, none⟩ = some (.int .u8 167) := fun k hk => by
    rw [hown.cellAt _ (by omega)]
    simp only [bv]
    rw [List.map_append, List.getElem?_append_right (by simp [hln]), List.length_map, hln, Nat.add_sub_cancel_left]
    rw [List.map_replicate, List.getElem?_replicate, if_pos hk]
    rfl
  have HC := Lib.hid hcell
  have HL := Lib.hid hln
  clear hcell hln hA hB hown hl9
  go_enter Tryz.func82, Tryz.ntmps82
  go_wp2_with (go_at_call 104; refine (hsame _ (by repeat (with_reducible first | exact Chg.refl _ _ | refine chg_m ?_ _ | refine chg_g ?_ _ | refine chg_alloc ?_ _ | refine chg_drew ?_ | refine chg_drewN ?_ _ | refine chg_set ?_ _ _ _))).mono ?_; rintro e w' ⟨rfl, g1, rfl⟩)
  have hC1 := g1.h
  generalize g1.w = W1 at *
  go_loopw [6] (fun i' wr => ∃ (k : Nat), k ≤ 9 ∧ i' = .int .i64 ((n + k : Nat) : Int) ∧ Chg Noth w wr) (fun i' _ => n + 9 - (intOf i').toNat)
  case atStart => exact ⟨0, Nat.zero_le _, rfl, hC1⟩
  case round =>
    obtain ⟨k, hk, rfl, hCx⟩ := hrel
    have jg : Old g wr := ⟨Nat.lt_of_lt_of_le hg hCx.size⟩
    by_cases hk9 : k = 9
    · subst hk9
      have HCX := Lib.hid hCx
      clear hCx
      go_wp2
      go_ret
      exact gr_mk rfl HCX.out
    · have hlt : k < 9 := by omega
      have c0 : wr.cell? ⟨g, n + k, none⟩ = some (.int .u8 167) := (hCx.cell (p := ⟨g, n + k, none⟩) hg fun e => e).trans (HC.out k hlt)
      have HCX := Lib.hid hCx
      clear hCx
      go_wp2
      go_roundw
      case rel => exact ⟨k + 1, by omega, by go_num, HCX.out⟩
      case measure => simp [intOf]; omega
end Go.Proofs.YteemkceceaabkaaGreat
