/- The reference's Check. -/
import Derived.Test.YteemkceceaabkaaAg0
import Derived.Test.YteemkceceaabkaaAg2
namespace Go.Proofs.Yteemkceceaabkaa
open Go.RowKit Go.Ear
set_option maxHeartbeats 4000000
set_option maxRecDepth 100000
set_option linter.unusedSimpArgs false
set_option linter.unusedVariables false

theorem checkR_bad (n f : Int) (v : Value) (w : World) (h : n < 1 ∨ 100 < n ∨ f < 0 ∨ n ≤ f) : Calls Try.prog 29 #[i64 n, i64 f, v] w (Gr (.tuple #[i64 0, i64 1]) w) := by
  rcases (show n < 1 ∨ (1 ≤ n ∧ 100 < n) ∨ ((1 ≤ n ∧ n ≤ 100) ∧ f < 0) ∨ ((1 ≤ n ∧ n ≤ 100) ∧ 0 ≤ f ∧ n ≤ f) by omega) with h1 | ⟨h1, h2⟩ | ⟨⟨h1, h4⟩, h2⟩ | ⟨⟨h1, h4⟩, h2, h3⟩
  all_goals
    clear h
    go_enter Try.func29, Try.ntmps29
    go_wp2
    go_ret2
    exact gr_mk rfl (by repeat (with_reducible first | exact Chg.refl _ _ | refine chg_m ?_ _ | refine chg_g ?_ _ | refine chg_alloc ?_ _ | refine chg_drew ?_ | refine chg_drewN ?_ _ | refine chg_set ?_ _ _ _))
/-- Nodes one behind the other, as a desk has them. -/
def dn (l : List Nd) : List Value := l.flatMap dcells
theorem dn_len : ∀ l : List Nd, (dn l).length = l.length * 6
  | [] => rfl
  | x :: l => by
    have := dn_len l
    simp only [dn, List.flatMap_cons, List.length_append, List.length_cons, dcells, List.length_nil] at this ⊢
    omega
theorem dn_get : ∀ (l : List Nd) (i k : Nat) (x : Nd), l[i]? = some x → k < 6 → (dn l)[i * 6 + k]? = (dcells x)[k]?
  | [], i, k, x, h, _ => by simp at h
  | y :: l, 0, k, x, h, hk => by
    simp only [List.getElem?_cons_zero, Option.some.injEq] at h
    subst h
    simp only [dn, List.flatMap_cons]
    rw [Nat.zero_mul, Nat.zero_add, List.getElem?_append_left (by exact hk)]
  | y :: l, i + 1, k, x, h, hk => by
    have ih := dn_get l i k x (by simpa using h) hk
    simp only [dn, List.flatMap_cons] at ih ⊢
    rw [List.getElem?_append_right (by show 6 ≤ _; omega), show (i + 1) * 6 + k - (dcells y).length = i * 6 + k by show (i + 1) * 6 + k - 6 = _; omega]
    exact ih
theorem zeroDesk : Try.zeroCells88 = ([iv 0, iv 0] ++ (dn (List.replicate 100 ⟨false, 0, 0, 0, 0⟩) ++ ([Value.bool false] ++ (Ev.zero.cells ++ [iv 0])))).toArray := by kernel_rfl
theorem rep_start (n f : Nat) (h2 : n ≤ 100) (h3 : f < n) : Rep ((Try.zeroCells88.setIfInBounds 0 (iv n)).setIfInBounds 1 (iv f)) n f (Au.start n) := by
  have hd := dn_len (List.replicate 100 (⟨false, 0, 0, 0, 0⟩ : Nd))
  rw [List.length_replicate] at hd
  have hz : ∀ m, 2 ≤ m → ((Try.zeroCells88.setIfInBounds 0 (iv n)).setIfInBounds 1 (iv f))[m]? = (dn (List.replicate 100 ⟨false, 0, 0, 0, 0⟩) ++ ([Value.bool false] ++ (Ev.zero.cells ++ [iv 0])))[m - 2]? := fun m hm => by
    rw [Array.getElem?_setIfInBounds_ne (by omega), Array.getElem?_setIfInBounds_ne (by omega), zeroDesk, List.getElem?_toArray, List.getElem?_append_right (by simpa using hm)]
    rfl
  have hs : Try.zeroCells88.size = 619 := by kernel_rfl
  refine ⟨by simp, ?_, ?_, fun j x hx k hk => ?_, ?_, fun k hk => ?_, ⟨0, ?_, fun h => by cases h⟩, by simp [Au.start], h2, h3, St.zero_ok, St.zero_ok⟩
  · rw [Array.getElem?_setIfInBounds_ne (by omega), Array.getElem?_setIfInBounds_self_of_lt (by rw [hs]; omega)]
  · rw [Array.getElem?_setIfInBounds_self_of_lt (by simp [hs])]
  · simp only [Au.start, Int.toNat_natCast, List.getElem?_replicate] at hx
    split at hx
    · rename_i hj
      have h4 := dn_get (List.replicate 100 (⟨false, 0, 0, 0, 0⟩ : Nd)) j k x (by rw [List.getElem?_replicate, if_pos (by omega)]; exact hx) hk
      rw [hz _ (by omega), List.getElem?_append_left (by omega), show 2 + j * 6 + k - 2 = j * 6 + k by omega]
      exact h4
    · simp at hx
  · rw [hz _ (by omega), List.getElem?_append_right (by omega), hd]
    rfl
  · rw [hz _ (by omega), List.getElem?_append_right (by omega), hd, List.getElem?_append_right (by show 1 ≤ _; omega), List.getElem?_append_left (by show _ < 15; simp only [List.length_cons, List.length_nil]; omega)]
    congr 1
    simp only [List.length_cons, List.length_nil]
    omega
  · rw [hz _ (by omega), List.getElem?_append_right (by omega), hd]
    rfl
theorem checkR_good (n f : Nat) (A : Option Addr) (c : Nat) (l : List Ev) (w : World) (h1 : 1 ≤ n) (h2 : n ≤ 100) (h3 : f < n) (hE : EvsAt w A c l) (hl : l.length ≤ 10000) :
    Calls Try.prog 29 #[i64 n, i64 f, .slice A l.length c] w (Gr (.tuple #[i64 (auCheck n f l).1, i64 (auCheck n f l).2]) w) := by
  have hR : auCheck n f l = Au.check n f (Au.start n) l 0 := by
    unfold auCheck
    rw [if_neg (by omega)]
  generalize hr : auCheck n f l = R at hR ⊢
  obtain ⟨r1, r2⟩ := R
  simp only
  have HR := Lib.hid hR
  clear hR hr
  generalize hlen : l.length = len at *
  have HLEN := Lib.hid hlen
  clear hlen
  have x1 : decide ((f : Int) < 0) = false := decide_eq_false (by omega)
  have x2 : decide (n ≤ f) = false := decide_eq_false (by omega)
  go_enter Try.func29, Try.ntmps29
  go_wp2
  go_loopw [9] (fun i' wr => ∃ (k : Nat) (s : Au), k ≤ len ∧ i' = .int .i64 k ∧ Chg Noth w wr ∧ DeskIs wr w.heap.size n f s ∧ Au.check n f s (l.drop k) k = (r1, r2)) (fun i' _ => len - (intOf i').toNat)
  case atStart =>
    exact ⟨0, Au.start n, by omega, rfl, (by repeat (with_reducible first | exact Chg.refl _ _ | refine chg_m ?_ _ | refine chg_g ?_ _ | refine chg_alloc ?_ _ | refine chg_drew ?_ | refine chg_drewN ?_ _ | refine chg_set ?_ _ _ _)), ⟨_, heap_alloc_new _ _, rep_start n f h2 h3⟩, HR.out.symm⟩
  case round =>
    obtain ⟨k, s, hk, rfl, hc, hD, hchk⟩ := hrel
    have jp : Old w.heap.size wr := ⟨by obtain ⟨cs, hr, _⟩ := hD; exact hr.lt⟩
    by_cases hlt : k < len
    · obtain ⟨e, he⟩ : ∃ e, l[k]? = some e := ⟨_, List.getElem?_eq_getElem (by rw [HLEN.out]; exact hlt)⟩
      obtain ⟨b, off, rfl, hb, hcell⟩ := (hE.grow hc).at he
      have hok := hE.2 e (List.mem_of_getElem? he)
      have hdr : l.drop k = e :: l.drop (k + 1) := by
        obtain ⟨h1, h2⟩ := List.getElem?_eq_some_iff.1 he
        rw [← h2]
        exact List.drop_eq_getElem_cons h1
      rw [hdr] at hchk
      have hof := fun W h => holds_any W w.heap.size n f s e h hok
      have jb : Old b wr := ⟨hb⟩
      simp only [Au.check] at hchk
      generalize hst : s.step n f e = r at hof hchk
      clear hst
      obtain ⟨kind, node, life, round, tag, of, dur, ⟨ha, hb', hc', hd⟩, ⟨ua, ub, uc, ud⟩⟩ := e
      have e0 := hcell 0 (iv kind) rfl
      have e1 := hcell 1 (iv node) rfl
      have e2 := hcell 2 (iv life) rfl
      have e3 := hcell 3 (iv round) rfl
      have e4 := hcell 4 (iv tag) rfl
      have e5 := hcell 5 (iv of) rfl
      have e6 := hcell 6 (iv dur) rfl
      have e7 := hcell 7 (u32v ha) rfl
      have e8 := hcell 8 (u32v hb') rfl
      have e9 := hcell 9 (u32v hc') rfl
      have e10 := hcell 10 (u32v hd) rfl
      have e11 := hcell 11 (u32v ua) rfl
      have e12 := hcell 12 (u32v ub) rfl
      have e13 := hcell 13 (u32v uc) rfl
      have e14 := hcell 14 (u32v ud) rfl
      simp only [Nat.add_zero] at e0
      have HCK := Lib.hid hchk
      have HC := Lib.hid hc
      have HD := Lib.hid hD
      clear hchk hc hD hcell hok hdr he
      go_wp2_with fail
      refine (hof _ (HD.out.grow (by repeat (with_reducible first | exact Chg.refl _ _ | refine chg_m ?_ _ | refine chg_g ?_ _ | refine chg_alloc ?_ _ | refine chg_drew ?_ | refine chg_drewN ?_ _ | refine chg_set ?_ _ _ _)))).mono ?_
      rintro en X ⟨hC, ⟨hr, rfl⟩ | ⟨s', hr, rfl, hD2⟩⟩
      all_goals
        have hCw : Chg Noth w X := Chg.trans (G := fun k => k = w.heap.size) (by repeat (with_reducible first | exact HC.out | exact Chg.refl _ _ | refine chg_m ?_ _ | refine chg_g ?_ _ | refine chg_alloc ?_ _ | refine chg_drew ?_ | refine chg_drewN ?_ _ | refine chg_set ?_ _ _ _)) hC (fun i hi h => by omega)
        subst hr
        have HCw := Lib.hid hCw
        clear hC hCw
      · have hck := HCK.out
        simp only [Prod.mk.injEq] at hck
        obtain ⟨rfl, rfl⟩ := hck
        go_wp2
        go_ret2
        exact gr_mk rfl (by repeat (with_reducible first | exact HCw.out | exact Chg.refl _ _ | refine chg_m ?_ _ | refine chg_g ?_ _ | refine chg_alloc ?_ _ | refine chg_drew ?_ | refine chg_drewN ?_ _ | refine chg_set ?_ _ _ _))
      · have HD2 := Lib.hid hD2
        clear hD2
        go_wp2
        exact ⟨⟨k + 1, s', by omega, by simp, (by repeat (with_reducible first | exact HCw.out | exact Chg.refl _ _ | refine chg_m ?_ _ | refine chg_g ?_ _ | refine chg_alloc ?_ _ | refine chg_drew ?_ | refine chg_drewN ?_ _ | refine chg_set ?_ _ _ _)), HD2.out, by have := HCK.out; simpa using this⟩, by simp [intOf]; omega⟩
    · obtain rfl : k = len := by omega
      rw [List.drop_of_length_le (by rw [HLEN.out]; exact Nat.le_refl _)] at hchk
      simp only [Au.check] at hchk
      obtain ⟨cs, hraw, hrep⟩ := hD
      obtain ⟨cp3, fp3, kp3⟩ := hraw.cell (v := .bool s.row) hrep.row
      have HCK := Lib.hid hchk
      have HC := Lib.hid hc
      clear hchk hc hraw hrep
      cases hrow : s.row
      all_goals
        rw [hrow] at HCK cp3
        clear hrow
        go_wp2
        go_ret2
        have hck := HCK.out
        simp only [Bool.false_eq_true, if_false, if_true, Prod.mk.injEq] at hck
        obtain ⟨rfl, rfl⟩ := hck
        exact gr_mk rfl (by repeat (with_reducible first | exact HC.out | exact Chg.refl _ _ | refine chg_m ?_ _ | refine chg_g ?_ _ | refine chg_alloc ?_ _ | refine chg_drew ?_ | refine chg_drewN ?_ _ | refine chg_set ?_ _ _ _))
theorem checkR_any (n f : Int) (A : Option Addr) (c : Nat) (l : List Ev) (w : World) (hE : EvsAt w A c l) (hl : l.length ≤ 10000) :
    Calls Try.prog 29 #[i64 n, i64 f, .slice A l.length c] w (Gr (.tuple #[i64 (auCheck n f l).1, i64 (auCheck n f l).2]) w) := by
  by_cases h : n < 1 ∨ 100 < n ∨ f < 0 ∨ n ≤ f
  · unfold auCheck
    rw [if_pos h]
    exact checkR_bad n f _ w h
  · obtain ⟨n, rfl⟩ := Int.eq_ofNat_of_zero_le (show 0 ≤ n by omega)
    obtain ⟨f, rfl⟩ := Int.eq_ofNat_of_zero_le (show 0 ≤ f by omega)
    exact checkR_good n f A c l w (by omega) (by omega) (by omega) hE hl
end Go.Proofs.Yteemkceceaabkaa
