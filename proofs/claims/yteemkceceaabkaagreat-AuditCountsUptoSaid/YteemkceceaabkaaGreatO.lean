/- light, SameBytes, SameGram, alive. -/
import Derived.Test.YteemkceceaabkaaGreatJ
import Derived.Lib.SlBytesConst
set_option linter.unusedSimpArgs false
set_option linter.unusedVariables false
namespace Go.Proofs.YteemkceceaabkaaGreat
open Go.RowKit Go.Ear
set_option maxHeartbeats 1000000
set_option maxRecDepth 20000

/-- Cells of a slice, place by place. -/
theorem sl_at {w : World} {A : Option Addr} {n c sz : Nat} {xs : List Value} (h : SL w (.slice A n c) n sz xs) (hp : 0 < n) : ∃ b off, A = some ⟨b, off, none⟩ ∧ b < w.heap.size ∧ ∀ i u, xs[i]? = some u → w.cell? ⟨b, off + i, none⟩ = some u := by
  obtain ⟨_, A', c', e, _, _, h2⟩ := h
  simp only [Value.slice.injEq, true_and] at e
  obtain ⟨rfl, rfl⟩ := e
  exact h2 hp

theorem sameBytes_any (A B : Option Addr) (c d : Nat) (l : List UInt8) (n : Nat) (hn : n = l.length) (w : World) (hA : SL w (.slice A n c) n 1 (bv l)) (hB : SL w (.slice B n d) n 1 (bv l)) (hle : n ≤ 1000000000000000) :
    Calls Tryz.prog 104 #[.slice A n c, .slice B n d] w (Gr (.bool true) w) := by
  rcases Nat.eq_zero_or_pos n with h0 | hp
  · clear hA hB hn
    subst h0
    go_enter Tryz.func104, Tryz.ntmps104
    go_wp2
    refine wp_loop_rounds 1 ?_
    rw [rounds_succ]
    go_wp2
    go_ret
    exact gr_same rfl
  · obtain ⟨b, off, rfl, hb, hcA⟩ := sl_at hA hp
    obtain ⟨b', off', rfl, hb', hcB⟩ := sl_at hB hp
    have i1 : Old b w := ⟨hb⟩
    have i2 : Old b' w := ⟨hb'⟩
    clear hA hB
    have HN := Lib.hid hn
    clear hn
    go_enter Tryz.func104, Tryz.ntmps104
    go_wp2
    go_loopw [5] (fun i wr => ∃ (k : Nat) (g : Grows w), k ≤ n ∧ i = .int .i64 k ∧ wr = g.w) (fun i _ => n - (intOf i).toNat)
    case atStart => exact ⟨0, ⟨w, Chg.refl _ _⟩, Nat.zero_le _, rfl, rfl⟩
    case round =>
      obtain ⟨k, g, hk, rfl, rfl⟩ := hrel
      by_cases hlt : k < n
      · have hkl : k < l.length := by have := HN.out; omega
        have hx : (bv l)[k]? = some (.int .u8 ((l[k]'hkl).toNat : Int)) := by simp [bv, hkl]
        have a1 := hcA k _ hx
        have b1 := hcB k _ hx
        generalize (l[k]'hkl).toNat = x at a1 b1
        clear hx hcA hcB
        go_wp2
        refine wp_region_grows (by kernel_rfl) (by kernel_rfl) ?_
        repeat (go_big_quiet_step (fail))
        refine wpQuiet_nil ?_
        rintro _ ⟨g2, rfl⟩
        go_wp2
        go_roundw
        case rel => exact ⟨k + 1, g.join g2, by omega, by go_num, rfl⟩
        case measure => simp [intOf]; omega
      · go_wp2
        go_ret
        exact gr_mk rfl (by repeat (with_reducible first | exact Chg.refl _ _ | refine chg_m ?_ _ | refine chg_g ?_ _ | refine chg_alloc ?_ _ | refine chg_drew ?_ | refine chg_drewN ?_ _ | refine chg_set ?_ _ _ _))

theorem sameGram_any (i f t : Int) (A B : Option Addr) (c d : Nat) (l : List UInt8) (n : Nat) (hn : n = l.length) (w : World) (hA : SL w (.slice A n c) n 1 (bv l)) (hB : SL w (.slice B n d) n 1 (bv l)) (hle : n ≤ 1000000000000000) :
    Calls Tryz.prog 85 #[gv i f t (.slice A n c), gv i f t (.slice B n d)] w (Gr (.bool true) w) := by
  have h14 := sameBytes_any A B c d l n hn
  clear hn
  go_enter Tryz.func85, Tryz.ntmps85
  go_wp2_with (go_at_call 104; refine (h14 _ (hA.grow (by repeat (with_reducible first | exact Chg.refl _ _ | refine chg_m ?_ _ | refine chg_g ?_ _ | refine chg_alloc ?_ _ | refine chg_drew ?_ | refine chg_drewN ?_ _ | refine chg_set ?_ _ _ _))) (hB.grow (by repeat (with_reducible first | exact Chg.refl _ _ | refine chg_m ?_ _ | refine chg_g ?_ _ | refine chg_alloc ?_ _ | refine chg_drew ?_ | refine chg_drewN ?_ _ | refine chg_set ?_ _ _ _))) hle).mono ?_; rintro e w' ⟨rfl, g, rfl⟩)
  go_ret
  exact gr_mk rfl (by repeat (with_reducible first | exact Chg.refl _ _ | refine chg_m ?_ _ | refine chg_g ?_ _ | refine chg_alloc ?_ _ | refine chg_drew ?_ | refine chg_drewN ?_ _ | refine chg_set ?_ _ _ _))

theorem sl_const (W : World) (t : TypeId) (fr : Nat × Nat) (n : Nat) [h : HS W n] : SL (W.alloc (.cells #[.int .u8 120] t fr)) (.slice (some ⟨n, 0, none⟩) 1 1) 1 1 (bv [120]) := by
  rw [← h.eq]
  refine ⟨rfl, _, _, rfl, fun h => (by cases h), Nat.le_refl _, fun _ => ⟨_, 0, rfl, by simp, fun i u hu => ?_⟩⟩
  rw [World.cell?_alloc_mark]
  cases i with
  | zero => simpa [bv] using hu
  | succ i => simp [bv] at hu
theorem conv_one (W : World) (q c : Nat) (h : W.cell? ⟨q, 0, none⟩ = some (.int .u8 120)) : (convert 68 9 (.slice (some ⟨q, 0, none⟩) 1 c)).run Tryz.prog W = .ok (.string ⟨#[120]⟩) W :=
  run_convert_bytes_back (P := Tryz.prog) W 68 9 5 ⟨q, 0, none⟩ c [120] Tryz.underlying68 Tryz.underlying5 Tryz.underlying9 (fun j hj => by
    have : j = 0 := by simp at hj; exact hj
    subst this
    exact h)
theorem alive_any (w : World) : Calls Tryz.prog 19 #[] w (Gr (.bool true) w) := by
  have hnew := new_good 3
  have hsend := fun p F A c W => send_any p ⟨3, 0, []⟩ F 0 1 A c [120] W
  have es : sendS ⟨3, 0, []⟩ 0 1 [120] = (⟨3, 1, [⟨1, 0, 1, [120]⟩]⟩, 1, 0) := by simp [sendS, putS]
  rw [es] at hsend
  have hat := fun p F W h => at_good p 0 ⟨3, 1, [⟨1, 0, 1, [120]⟩]⟩ F W h ⟨1, 0, 1, [120]⟩ rfl
  have hroom := fun p F W h => room_any p ⟨3, 1, [⟨1, 0, 1, [120]⟩]⟩ F W h
  simp only [List.length_cons, List.length_nil] at hsend hat hroom
  have kc := fun (w : World) (C : Array Value) (n c : Nat) => Lib.run_convert_bytes_const (P := Tryz.prog) w 68 5 C n c Tryz.underlying68 Tryz.underlying5
  go_enter Tryz.func19, Tryz.ntmps19
  go_wp2_with fail
  refine (hnew _ (by omega) (by omega)).mono ?_
  rintro e w' ⟨rfl, ⟨g1, rfl⟩, hB⟩
  go_wp2_with fail
  refine (hsend _ _ _ _ _ (hB.grow (by repeat (with_reducible first | exact Chg.refl _ _ | refine chg_m ?_ _ | refine chg_g ?_ _ | refine chg_alloc ?_ _ | refine chg_drew ?_ | refine chg_drewN ?_ _ | refine chg_set ?_ _ _ _))) (sl_const _ _ _ _) (by intro _ k hk; simp [Value.ownBlock] at hk; have := hB.lt rfl; omega) (by simp) (by simp)).mono ?_
  intro e w' h
  obtain ⟨rfl, g2, rfl, F2, hB2, hF2⟩ := NB.of (w0 := w) (by repeat (with_reducible first | exact Chg.refl _ _ | refine chg_m ?_ _ | refine chg_g ?_ _ | refine chg_alloc ?_ _ | refine chg_drew ?_ | refine chg_drewN ?_ _ | refine chg_set ?_ _ _ _)) (fun k hk => by omega) h
  clear h hB
  go_wp2_with fail
  refine (hat _ _ _ hB2).mono ?_
  rintro e w' ⟨A, c, rfl, ho, g3, rfl⟩
  obtain ⟨q, cap, e, _, hq⟩ := ho.form (by simp)
  cases e
  have hq0 : (g2.join g3).w.cell? ⟨q, 0, none⟩ = some (.int .u8 120) := (ho.cellAt 0 (by simp)).trans rfl
  have i1 : Old q (g2.join g3).w := ⟨hq⟩
  have hB3 : IsBag (g2.join g3).w _ _ _ := hB2.grow g3.h
  have hcv := conv_one
  clear ho
  go_wp2_with fail
  refine (hroom _ _ _ (hB3.grow (by repeat (with_reducible first | exact Chg.refl _ _ | refine chg_m ?_ _ | refine chg_g ?_ _ | refine chg_alloc ?_ _ | refine chg_drew ?_ | refine chg_drewN ?_ _ | refine chg_set ?_ _ _ _)))).mono ?_
  rintro e w' ⟨rfl, g4, rfl⟩
  go_wp2_with fail
  go_ret
  exact gr_mk rfl (by repeat (with_reducible first | exact Chg.refl _ _ | refine chg_m ?_ _ | refine chg_g ?_ _ | refine chg_alloc ?_ _ | refine chg_drew ?_ | refine chg_drewN ?_ _ | refine chg_set ?_ _ _ _))
end Go.Proofs.YteemkceceaabkaaGreat
