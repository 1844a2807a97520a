/- BagSpoilt. -/
import Derived.Test.YteemkceceaabkaaN
import Derived.Test.YteemkceceaabkaaU
import Derived.Test.YteemkceceaabkaaR
namespace Go.Proofs.Yteemkceceaabkaa
open Go.RowKit Go.Ear
set_option maxHeartbeats 2000000
set_option maxRecDepth 100000

/-- Both lists, byte by byte. -/
def turned (x : Gm) (j : Nat) (u : UInt8) : Gm := { x with data := x.data.set j (x.data.getD j 0 ^^^ u) }
theorem turned_len (x : Gm) (j : Nat) (u : UInt8) : (turned x j u).data.length = x.data.length := by simp [turned]
theorem turned_byte (x : Gm) (j m : Nat) (u : UInt8) (hm : m < x.data.length) (hu : u ≠ 0) :
    ∃ d e : UInt8, x.data[m]? = some d ∧ (turned x j u).data[m]? = some e ∧ ((m = j ∧ e = d ^^^ u ∧ d ≠ e) ∨ (m ≠ j ∧ d = e)) := by
  refine ⟨x.data[m], _, List.getElem?_eq_getElem hm, List.getElem?_eq_getElem (by rw [turned_len]; exact hm), ?_⟩
  by_cases h : m = j
  · subst h
    refine .inl ⟨rfl, by simp [turned, hm], ?_⟩
    simp [turned, hm]
    intro e
    apply hu
    have : x.data[m] ^^^ x.data[m] = x.data[m] ^^^ (x.data[m] ^^^ u) := by rw [← e]
    rw [UInt8.xor_self, ← UInt8.xor_assoc, UInt8.xor_self, UInt8.zero_xor] at this
    exact this.symm
  · exact .inr ⟨h, by simp [turned, List.getElem_set_ne (Ne.symm h)]⟩
theorem turned_twice (x : Gm) (j : Nat) (u : UInt8) (hj : j < x.data.length) : turned (turned x j u) j u = x := by
  cases x with
  | mk a b c l =>
    simp only [turned, List.set_set, Gm.mk.injEq, true_and]
    have hj' : j < l.length := hj
    simp [hj', UInt8.xor_assoc]
theorem spoil_turned (L : List Gm) (last : Int) (i : Nat) (a b : Int) (x : Gm) (hx : L[i]? = some x) (h1 : 1 ≤ b) (h2 : b ≤ 255) (h3 : 0 < x.data.length) :
    spoilS ⟨60, last, L⟩ i a b = (⟨60, last, L.set i (turned x (a % x.data.length).toNat (UInt8.ofNat b.toNat))⟩, 0) := by
  unfold spoilS
  rw [if_neg (by omega)]
  simp only [Int.toNat_natCast, hx]
  rw [if_neg (by omega)]
  rfl

def cntO (i k : Nat) : Nat := if i < k then 1 else 0
def cntI (i j k m : Nat) : Nat := if k = i then (if j < m then 1 else 0) else cntO i k
theorem cntI_zero (i j k : Nat) : cntI i j k 0 = cntO i k := by unfold cntI cntO; split <;> simp <;> omega
theorem cntI_hit (i j : Nat) : cntI i j i (j + 1) = cntI i j i j + 1 := by simp [cntI]
theorem cntI_miss (i j k m : Nat) (h : ¬ (k = i ∧ m = j)) : cntI i j k (m + 1) = cntI i j k m := by
  unfold cntI
  split
  · split <;> split <;> omega
  · rfl
theorem cntI_end (i j k len : Nat) (h : k = i → j < len) : cntI i j k len = cntO i (k + 1) := by
  unfold cntI cntO
  split
  · rw [if_pos (h ‹_›), if_pos (by omega)]
  · split <;> split <;> omega
theorem cntI_le (i j k m : Nat) : cntI i j k m ≤ 1 := by unfold cntI cntO; split <;> split <;> omega

theorem spoilt_out (ops : List OpS) (A : Option Addr) (c : Nat) (i a b : Int) (w : World) (hS : Scr w A ops) (hl : lightF ops = false) :
    Calls Try.prog 6 #[.slice A ops.length c, i64 i, i64 a, i64 b] w (Gr (.bool true) w) := by
  have hlight := fun W h => light_any ops A c W h
  rw [hl] at hlight
  clear hl
  have hnew := new_good 60
  go_enter Try.func6, Try.ntmps6
  go_wp2_with (first
    | (go_at_call 10; refine (hnew _ (by omega) (by omega)).mono ?_; rintro e w' ⟨rfl, ⟨g1, rfl⟩, hB⟩)
    | (go_at_call 16; refine (hlight _ (hS.grow (by repeat (with_reducible first | exact Chg.refl _ _ | refine chg_m ?_ _ | refine chg_g ?_ _ | refine chg_alloc ?_ _ | refine chg_drew ?_ | refine chg_drewN ?_ _ | refine chg_set ?_ _ _ _)))).mono ?_; rintro e w' ⟨rfl, g2, rfl⟩)
    | (go_at_call 9; refine (alive_any _).mono ?_; rintro e w' ⟨rfl, g3, rfl⟩))
  go_ret
  exact gr_mk rfl (by repeat (with_reducible first | exact Chg.refl _ _ | refine chg_m ?_ _ | refine chg_g ?_ _ | refine chg_alloc ?_ _ | refine chg_drew ?_ | refine chg_drewN ?_ _ | refine chg_set ?_ _ _ _))

/-- The second half's test: two lists that read alike. -/
theorem spoilt_bad (ops : List OpS) (A : Option Addr) (c : Nat) (i a b : Int) (w : World) (hS : Scr w A ops) (hl : lightF ops = true) (ha : -9223372036854775808 ≤ a ∧ a ≤ 9223372036854775807) (q : Int) (hq : q = 91 ∨ q = 1)
    (hbad : spoilS (runS ⟨60, 0, []⟩ ops).1 i a b = ((runS ⟨60, 0, []⟩ ops).1, q)) :
    Calls Try.prog 6 #[.slice A ops.length c, i64 i, i64 a, i64 b] w (Gr (.bool true) w) := by
  have hlight := fun W h => light_any ops A c W h
  rw [hl] at hlight
  obtain ⟨hn, hl2⟩ : ops.length ≤ 150 ∧ ∀ o ∈ ops, o.data.length ≤ 2000 := by simpa [lightF] using hl
  clear hl
  have hnew := new_good 60
  have hrun := fun W h => run_any w.heap.size ⟨60, 0, []⟩ ops A c w W hS h hn hl2 (by simp) (Nat.le_refl _)
  have hinv := inv_run (r := 60) (by omega) ops
  generalize runS ⟨60, 0, []⟩ ops = S at *
  obtain ⟨⟨r, last, L⟩, mm, tt⟩ := S
  have hroom := hinv.room
  have hfits := hinv.fits
  simp only at hrun hroom hfits
  subst hroom
  have HI := Lib.hid hinv
  clear hinv
  have hsm : ∀ g ∈ L, g.data.length ≤ 1024 := HI.out.small
  have HSM := Lib.hid hsm
  clear hsm
  have hall := fun p F W h => all_any p ⟨60, last, L⟩ F W h
  simp only at hall
  obtain ⟨n, hnL⟩ : ∃ n, n = L.length := ⟨_, rfl⟩
  have hfit2 : n ≤ 60 := by omega
  rw [← hnL] at hall
  have HN := Lib.hid hnL
  clear hfits
  have hsp := fun F W h => spoil_any w.heap.size ⟨60, last, L⟩ F i a b W h ha
  simp only at hbad
  rw [hbad] at hsp
  simp only at hsp
  clear hbad hnL
  rcases hq with rfl | rfl
  all_goals
    go_enter Try.func6, Try.ntmps6
    go_wp2_with (first
        | (go_at_call 10; refine (hnew _ (by omega) (by omega)).mono ?_; rintro e w' ⟨rfl, ⟨g1, rfl⟩, hB⟩)
        | (go_at_call 16; refine (hlight _ (hS.grow (by repeat (with_reducible first | exact Chg.refl _ _ | refine chg_m ?_ _ | refine chg_g ?_ _ | refine chg_alloc ?_ _ | refine chg_drew ?_ | refine chg_drewN ?_ _ | refine chg_set ?_ _ _ _)))).mono ?_; rintro e w' ⟨rfl, g2, rfl⟩)
        | (go_at_call 17; refine (hrun _ ⟨g1.join g2, rfl, _, hB.grow g2.h, fun k hk => by omega⟩).mono ?_; rintro e w' ⟨rfl, g3, rfl, F, hB3, hF3⟩))
    refine (hall _ _ _ hB3).mono ?_
    rintro e X ⟨A1, c1, vs, rfl, ⟨g4, e4⟩, hgl⟩
    have hB4 : IsBag X w.heap.size ⟨60, last, L⟩ F := by rw [e4]; exact hB3.grow g4.h
    have hC4 : Chg Noth w X := by rw [e4]; exact g3.h.trans g4.h (fun _ _ e => e)
    have hFb : ∀ k, F k → k < g3.w.heap.size := fun k hk => hB3.lt hk
    have hglt : ∀ k, ((Value.slice A1 n c1).ownBlock = some k ∨ ∃ v ∈ vs, v.ownBlock = some k) → g3.w.heap.size ≤ k ∧ k < X.heap.size := fun k hk => hgl.blk k hk
    generalize g3.w.heap.size = b1 at *
    clear e4 g4 hrun hnew hlight hB hB3
    go_wp2_with fail
    refine (hsp _ _ hB4).mono ?_
    rintro e Y ⟨rfl, m, F2, e5, hB5, hF2⟩
    have hCY : Chg F X Y := by rw [e5]; exact m.h
    rw [← e5] at hB5
    have hCw : Chg Noth w Y := hC4.trans hCY fun k hk hf => by have := hF3 k hf; omega
    have hglY : GL Y b1 (.slice A1 n c1) vs L := hgl.chg hCY fun k _ hk e => by have := hglt k hk; have := hFb k e; omega
    clear e5 m hgl hsp hB4
    go_wp2_with fail
    refine (hall _ _ _ hB5).mono ?_
    rintro e V ⟨A2, c2, us, rfl, ⟨g6, e6⟩, hgl2⟩
    have hCV : Chg Noth Y V := by rw [e6]; exact g6.h
    have hCwV : Chg Noth w V := hCw.trans hCV fun _ _ e => e
    have hglV := hglY.grow hCV
    clear e6 g6 hall hglY hB5
    have hc24 := fun (W : World) (hc : Chg Noth V W) => sameBag_any A1 A2 c1 c2 vs us L n _ _ HN.out W (hglV.grow hc) (hgl2.grow hc) HSM.out (by omega)
    clear hglV hgl2 hglt
    go_wp2_with (first
      | (go_at_call 9; refine (alive_any _).mono ?_; rintro e w' ⟨rfl, g7, rfl⟩)
      | (go_at_call 24; refine (hc24 _ (by repeat (with_reducible first | exact Chg.refl _ _ | refine chg_m ?_ _ | refine chg_g ?_ _ | refine chg_alloc ?_ _ | refine chg_drew ?_ | refine chg_drewN ?_ _ | refine chg_set ?_ _ _ _))).mono ?_; rintro e w' ⟨rfl, g8, rfl⟩))
    go_ret
    exact gr_mk rfl (by repeat (with_reducible first | exact hCwV | exact Chg.refl _ _ | refine chg_m ?_ _ | refine chg_g ?_ _ | refine chg_alloc ?_ _ | refine chg_drew ?_ | refine chg_drewN ?_ _ | refine chg_set ?_ _ _ _))
end Go.Proofs.Yteemkceceaabkaa
