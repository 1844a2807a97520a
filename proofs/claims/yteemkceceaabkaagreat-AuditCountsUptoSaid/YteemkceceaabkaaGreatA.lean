/- Contracts of the small functions of package bag. -/
import Derived.Test.YteemkceceaabkaaGreatRows
import Derived.Test.YteemkceceaabkaaGreatM
namespace Go.Proofs.YteemkceceaabkaaGreat
open Go.RowKit Go.Ear
set_option maxHeartbeats 1000000

abbrev i64 (n : Int) : Value := .int .i64 n
theorem info5 : (Tryz.prog.info? 5).map (fun i => (i.zero, i.size, i.bytes)) = some (some (.int .u8 0), 1, 1) := by kernel_rfl

/-- What Clone answers: bytes of its own. -/
def Own1 (w : World) (base : Nat) (v : Value) (l : List UInt8) : Prop := w.ownsRow base 5 1 v l.length (bv l)
theorem clone_some (ad : Addr) (c : Nat) (l : List UInt8) (w : World) (hc : ∀ j u, (bv l)[j]? = some u → w.cell? (ad.add j) = some u) (hn : l.length ≤ 140737488351232) :
    Calls Tryz.prog 135 #[.slice (some ad) l.length c] w fun e w' => ∃ v, e = .returned v ∧ Own1 w' w.heap.size v l ∧ ∃ g : Grows w, w' = g.w := by
  obtain ⟨i0, hi, hz0, hz1, hz2⟩ := info_parts info5
  have h1 := bv_one l
  have hc' : ∀ j u, (bv l)[j]? = some u → (w.alloc (.cells #[] 5)).cell? (ad.add j) = some u := fun j u hu => by
    have := hc j u hu
    rw [World.cell?_alloc_lt _ _ _ (block_lt_of_cell this)]
    exact this
  have e1 := fun (w : World) (a : Option Addr) (n c : Nat) => Lib.run_eql_slice_nil (P := Tryz.prog) w 68 5 a n c 0 0 Tryz.underlying68
  go_enter Tryz.func135, Tryz.ntmps135
  go_wp2_with (at_builtin; refine wpList_append_own _ rfl _ _ 68 rfl w.heap.size 5 i0 _ 1 1 Tryz.underlying68 hi hz0 hz1 hz2 rfl (by decide) (.slice (some ⟨w.heap.size, 0, none⟩) 0 0) 0 [] rfl (World.ownsRow_lit _ #[] 0 (Nat.le_refl _) (by simp [maxLen]) rfl) ad l.length c (bv l) rfl (by simp) hc' h1 (by simp only [maxLen]; omega) (by omega) (by simp) ?_; intro v1 w1 hown1 hg1 _)
  go_ret
  simp only [Nat.zero_add, List.nil_append] at hown1
  exact ⟨v1, rfl, hown1, muts_ex ((chg_alloc (Chg.refl _ _) _).trans (Chg.of_grown hg1) (fun i hi e => by simp [Value.ownBlock] at e; omega))⟩
theorem clone_none (w : World) : Calls Tryz.prog 135 #[.slice none 0 0] w fun e w' => ∃ v, e = .returned v ∧ Own1 w' w.heap.size v [] ∧ ∃ g : Grows w, w' = g.w := by
  have e1 := fun (w : World) (a : Option Addr) (n c : Nat) => Lib.run_eql_slice_nil (P := Tryz.prog) w 68 5 a n c 0 0 Tryz.underlying68
  go_enter Tryz.func135, Tryz.ntmps135
  go_wp2_with fail
  go_ret
  exact ⟨_, rfl, World.ownsRow_nil _ _ _ _, muts_ex (Chg.refl _ _)⟩

theorem clone_any (v : Value) (l : List UInt8) (w : World) (h : SL w v l.length 1 (bv l)) (hn : l.length ≤ 140737488351232) :
    Calls Tryz.prog 135 #[v] w fun e w' => ∃ A c, e = .returned (.slice A l.length c) ∧ Own1 w' w.heap.size (.slice A l.length c) l ∧ ∃ g : Grows w, w' = g.w := by
  have fin : ∀ e w', (∃ v', e = Ending.returned v' ∧ Own1 w' w.heap.size v' l ∧ ∃ g : Grows w, w' = g.w) →
      ∃ A c, e = .returned (.slice A l.length c) ∧ Own1 w' w.heap.size (.slice A l.length c) l ∧ ∃ g : Grows w, w' = g.w := by
    rintro e w' ⟨v', rfl, ho, hg⟩
    obtain ⟨A, c, rfl⟩ := own_shape ho
    exact ⟨A, c, rfl, ho, hg⟩
  have h' := h
  obtain ⟨_, A, c, rfl, h0, _⟩ := h
  rcases A with _ | ad
  · obtain ⟨e0, rfl⟩ := h0 rfl
    obtain rfl := List.eq_nil_of_length_eq_zero e0
    exact (clone_none w).mono fin
  · exact (clone_some ad c l w h'.addr hn).mono fin

/-- A datagram as a value. -/
abbrev gv (id fr to : Int) (d : Value) : Value := .agg #[i64 id, i64 fr, i64 to, d]

theorem copied_any (id fr to : Int) (A : Option Addr) (n c : Nat) (l : List UInt8) (w : World) (h : SL w (.slice A n c) l.length 1 (bv l)) (hn : l.length ≤ 140737488351232) :
    Calls Tryz.prog 125 #[gv id fr to (.slice A n c)] w fun e w' => ∃ A c, e = .returned (gv id fr to (.slice A l.length c)) ∧ Own1 w' w.heap.size (.slice A l.length c) l ∧ ∃ g : Grows w, w' = g.w := by
  go_enter Tryz.func125, Tryz.ntmps125
  go_wp2_with fail
  refine (clone_any _ l _ (h.grow (chg_alloc (chg_alloc (Chg.refl _ _) _) _)) hn).mono ?_
  rintro e w' ⟨A', c', rfl, ho, g, rfl⟩
  go_wp2_with fail
  exact bodyPost_ret (v := gv id fr to (.slice A' l.length c')) (by simp [results, Tryz.results125, go_sem]) rfl ⟨A', c', rfl, own_up ho (by
    repeat (with_reducible first | exact Chg.refl _ _ | refine chg_g ?_ _ | refine chg_alloc ?_ _ | refine chg_drew ?_ | refine chg_drewN ?_ _ | refine chg_set ?_ _ _ _)), muts_ex (by
    repeat (with_reducible first | exact Chg.refl _ _ | refine chg_g ?_ _ | refine chg_alloc ?_ _ | refine chg_drew ?_ | refine chg_drewN ?_ _ | refine chg_set ?_ _ _ _))⟩

theorem round_any (v m : Int) (w : World) (hm : 0 < m) (hm' : m ≤ 1000000) (hv : -9223372036854775808 ≤ v ∧ v ≤ 9223372036854775807) :
    Calls Tryz.prog 129 #[i64 v, i64 m] w (Gr (i64 (v % m)) w) := by
  go_enter Tryz.func129, Tryz.ntmps129
  go_wp2
  go_ret
  have key : wrap64 (v.tmod m + m) = v.tmod m + m ∧ (v.tmod m + m).tmod m = v % m := by
    rcases Int.lt_or_le v 0 with hneg | hpos
    · obtain ⟨u, rfl⟩ : ∃ u, v = -u := ⟨-v, by omega⟩
      have e1 : (-u).tmod m = -(u % m) := by rw [Int.neg_tmod, Int.tmod_eq_emod_of_nonneg (by omega)]
      have b1 := Int.emod_nonneg u (show m ≠ 0 by omega)
      have b2 := Int.emod_lt_of_pos u hm
      rw [e1]
      refine ⟨by unfold wrap64; omega, ?_⟩
      rw [Int.tmod_eq_emod_of_nonneg (by omega)]
      have e2 := Int.emod_add_mul_ediv u m
      have e3 : -u = (-(u % m) + m) + m * (-(u / m) - 1) := by rw [Int.mul_sub, Int.mul_neg]; omega
      rw [show (-u) % m = ((-(u % m) + m) + m * (-(u / m) - 1)) % m from by rw [← e3], Int.add_mul_emod_self_left]
    · have e1 : v.tmod m = v % m := Int.tmod_eq_emod_of_nonneg hpos
      have b1 := Int.emod_nonneg v (show m ≠ 0 by omega)
      have b2 := Int.emod_lt_of_pos v hm
      rw [e1]
      refine ⟨by unfold wrap64; omega, ?_⟩
      rw [Int.tmod_eq_emod_of_nonneg (by omega), Int.add_emod_right, Int.emod_emod]
  rw [key.1, key.2]
  exact gr_same rfl
end Go.Proofs.YteemkceceaabkaaGreat
