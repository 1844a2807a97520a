/- BagKeeps. -/
import Derived.Test.YteemkceceaabkaaN
import Derived.Test.YteemkceceaabkaaU
import Derived.Test.YteemkceceaabkaaR
namespace Go.Proofs.Yteemkceceaabkaa
open Go.RowKit Go.Ear
set_option maxHeartbeats 2000000
set_option maxRecDepth 100000

theorem nodup_get {l : List Int} (h : l.Nodup) {i j : Nat} (hi : i < l.length) (hj : j < l.length) (hne : i ≠ j) : l[i] ≠ l[j] := fun e => hne ((List.getElem_inj h).1 e)
theorem ids_ne {L : List Gm} (h : (L.map (·.id)).Nodup) {i j : Nat} {x y : Gm} (hx : L[i]? = some x) (hy : L[j]? = some y) (hne : i ≠ j) : x.id ≠ y.id := by
  obtain ⟨hi, rfl⟩ := List.getElem?_eq_some_iff.1 hx
  obtain ⟨hj, rfl⟩ := List.getElem?_eq_some_iff.1 hy
  have := nodup_get h (i := i) (j := j) (by simpa using hi) (by simpa using hj) hne
  simpa using this

theorem keeps_out (room : Int) (ops : List OpS) (A : Option Addr) (c : Nat) (w : World) (hS : Scr w A ops) (h : room < 0 ∨ 60 < room ∨ (0 ≤ room ∧ room ≤ 60 ∧ lightF ops = false)) :
    Calls Try.prog 7 #[i64 room, .slice A ops.length c] w (Gr (.bool true) w) := by
  rcases h with h | h | ⟨h0, h1, hl⟩
  · go_enter Try.func7, Try.ntmps7
    go_wp2_with (go_at_call 9; refine (alive_any _).mono ?_; rintro e w' ⟨rfl, g3, rfl⟩)
    go_ret
    exact gr_mk rfl (by repeat (with_reducible first | exact Chg.refl _ _ | refine chg_m ?_ _ | refine chg_g ?_ _ | refine chg_alloc ?_ _ | refine chg_drew ?_ | refine chg_drewN ?_ _ | refine chg_set ?_ _ _ _))
  · have h' : ¬ room < 0 := by omega
    go_enter Try.func7, Try.ntmps7
    go_wp2_with (go_at_call 9; refine (alive_any _).mono ?_; rintro e w' ⟨rfl, g3, rfl⟩)
    go_ret
    exact gr_mk rfl (by repeat (with_reducible first | exact Chg.refl _ _ | refine chg_m ?_ _ | refine chg_g ?_ _ | refine chg_alloc ?_ _ | refine chg_drew ?_ | refine chg_drewN ?_ _ | refine chg_set ?_ _ _ _))
  · have hlight := fun W h => light_any ops A c W h
    rw [hl] at hlight
    clear hl
    go_enter Try.func7, Try.ntmps7
    go_wp2_with (first
      | (go_at_call 16; refine (hlight _ (hS.grow (by repeat (with_reducible first | exact Chg.refl _ _ | refine chg_m ?_ _ | refine chg_g ?_ _ | refine chg_alloc ?_ _ | refine chg_drew ?_ | refine chg_drewN ?_ _ | refine chg_set ?_ _ _ _)))).mono ?_; rintro e w' ⟨rfl, g2, rfl⟩)
      | (go_at_call 9; refine (alive_any _).mono ?_; rintro e w' ⟨rfl, g3, rfl⟩))
    go_ret
    exact gr_mk rfl (by repeat (with_reducible first | exact Chg.refl _ _ | refine chg_m ?_ _ | refine chg_g ?_ _ | refine chg_alloc ?_ _ | refine chg_drew ?_ | refine chg_drewN ?_ _ | refine chg_set ?_ _ _ _))

theorem keeps_any (room : Int) (ops : List OpS) (A : Option Addr) (c : Nat) (w : World) (hS : Scr w A ops) :
    Calls Try.prog 7 #[i64 room, .slice A ops.length c] w (Gr (.bool true) w) := by
  by_cases hout : room < 0 ∨ 60 < room ∨ (0 ≤ room ∧ room ≤ 60 ∧ lightF ops = false)
  · exact keeps_out room ops A c w hS hout
  · obtain ⟨h0, h1, hl⟩ : 0 ≤ room ∧ room ≤ 60 ∧ lightF ops = true := by
      refine ⟨by omega, by omega, ?_⟩
      cases e : lightF ops
      · exact (hout (.inr (.inr ⟨by omega, by omega, e⟩))).elim
      · rfl
    clear hout
    have hlight := fun W h => light_any ops A c W h
    rw [hl] at hlight
    obtain ⟨hn, hl2⟩ : ops.length ≤ 150 ∧ ∀ o ∈ ops, o.data.length ≤ 2000 := by simpa [lightF] using hl
    clear hl
    have hnew := new_good room
    have hrun := fun p W h h3 => run_any p ⟨room, 0, []⟩ ops A c w W hS h hn hl2 (by simp) h3
    have hinv := inv_run (r := room) h0 ops
    have hbd := fold_bounds (⟨room, 0, []⟩, 0, 0) ops
    rw [show ops.foldl stepS (⟨room, 0, []⟩, 0, 0) = runS ⟨room, 0, []⟩ ops from rfl] at hbd
    generalize runS ⟨room, 0, []⟩ ops = S at *
    obtain ⟨⟨r, last, L⟩, mm, tt⟩ := S
    have hcount := hinv.count
    have hroom := hinv.room
    have hfits := hinv.fits
    simp only at hrun hbd hcount hroom hfits
    subst hroom
    have HI := Lib.hid hinv
    clear hinv
    obtain ⟨_, hbd1, hbd2⟩ := hbd
    have hdiff : ((mm : Nat) : Int) - (tt : Nat) = (L.length : Int) := by omega
    have hall := fun p F W h => all_any p ⟨r, last, L⟩ F W h
    have hlen := fun p F W h => len_any p ⟨r, last, L⟩ F W h
    have hrm := fun p F W h => room_any p ⟨r, last, L⟩ F W h
    simp only at hall hlen hrm
    obtain ⟨n, hnL⟩ : ∃ n, n = L.length := ⟨_, rfl⟩
    rw [← hnL] at hall hlen hrm hdiff hfits hcount
    have HN := Lib.hid hnL
    clear hnL
    go_enter Try.func7, Try.ntmps7
    go_wp2_with (first
      | (go_at_call 10; refine (hnew _ (by omega) (by omega)).mono ?_; rintro e w' ⟨rfl, ⟨g1, rfl⟩, hB⟩)
      | (go_at_call 16; refine (hlight _ (hS.grow (by repeat (with_reducible first | exact Chg.refl _ _ | refine chg_m ?_ _ | refine chg_g ?_ _ | refine chg_alloc ?_ _ | refine chg_drew ?_ | refine chg_drewN ?_ _ | refine chg_set ?_ _ _ _)))).mono ?_; rintro e w' ⟨rfl, g2, rfl⟩)
      | (go_at_call 17; refine (hrun _ _ ⟨g2.join g1, rfl, _, hB, fun k hk => by have := g2.h.size; omega⟩ g2.h.size).mono ?_; rintro e w' ⟨rfl, g3, rfl, F, hB3, hF3⟩))
    refine (hall _ _ _ hB3).mono ?_
    rintro e X ⟨A1, c1, vs, rfl, ⟨g4, e4⟩, hgl⟩
    have hB4 : IsBag X g2.w.heap.size ⟨r, last, L⟩ F := by rw [e4]; exact hB3.grow g4.h
    have hC4 : Chg Noth w X := by rw [e4]; exact g3.h.trans g4.h (fun _ _ e => e)
    clear e4 g4 hall hrun hnew hlight hB hB3
    have hq : IntKind.i64.wrap (r - (n : Int)) = r - n := by rw [IntKind.wrap_i64]; omega
    have hL2 : ¬ r < (n : Int) := by omega
    have hn3 : n ≤ 150 := by omega
    go_wp2_with (first
      | (go_at_call 20; refine (hlen _ _ _ (hB4.grow (by repeat (with_reducible first | exact Chg.refl _ _ | refine chg_m ?_ _ | refine chg_g ?_ _ | refine chg_alloc ?_ _ | refine chg_drew ?_ | refine chg_drewN ?_ _ | refine chg_set ?_ _ _ _)))).mono ?_; rintro e w' ⟨rfl, g5, rfl⟩)
      | (go_at_call 25; refine (hrm _ _ _ (hB4.grow (by repeat (with_reducible first | exact Chg.refl _ _ | refine chg_m ?_ _ | refine chg_g ?_ _ | refine chg_alloc ?_ _ | refine chg_drew ?_ | refine chg_drewN ?_ _ | refine chg_set ?_ _ _ _)))).mono ?_; rintro e w' ⟨rfl, g6, rfl⟩))
    go_loopw [11] (fun i wr => ∃ (k : Nat) (g : Grows X), k ≤ n ∧ i = .int .i64 k ∧ wr = g.w) (fun i _ => n - (intOf i).toNat)
    case atStart => exact ⟨0, g5.join g6, Nat.zero_le _, rfl, rfl⟩
    case round =>
      obtain ⟨k, g, hk, rfl, rfl⟩ := hrel
      by_cases hlt : k < n
      · have hkl : k < L.length := by have := HN.out; omega
        obtain ⟨x, hx⟩ : ∃ x, L[k]? = some x := ⟨_, List.getElem?_eq_getElem hkl⟩
        have hid := HI.out.ids x (List.mem_of_getElem? hx)
        have hlast := HI.out.last
        simp only at hid hlast
        have hid1 : 1 ≤ x.id := hid.1
        have hid2 : x.id ≤ (mm : Int) := by omega
        clear hid hlast
        obtain ⟨ga, D, dc, rfl, l1, a0, _, _, _, _, _⟩ := hgl.at k x hx
        have i1 : Old ga X := ⟨l1⟩
        have HX := Lib.hid hx
        clear hx
        go_wp2
        go_loopw [12] (fun j wr => ∃ (m : Nat) (g : Grows X), m ≤ k ∧ j = .int .i64 m ∧ wr = g.w) (fun j _ => k - (intOf j).toNat)
        case atStart => exact ⟨0, g, Nat.zero_le _, rfl, rfl⟩
        case round =>
          obtain ⟨m, g7, hm, rfl, rfl⟩ := hrel
          by_cases hlt2 : m < k
          · have hml : m < L.length := by omega
            obtain ⟨y, hy⟩ : ∃ y, L[m]? = some y := ⟨_, List.getElem?_eq_getElem hml⟩
            have hne : (y.id == x.id) = false := beq_eq_false_iff_ne.2 (ids_ne HI.out.once hy HX.out (by omega))
            obtain ⟨gb, E, ec, e1, l2, b0, _⟩ := hgl.at m y hy
            cases e1
            clear hy
            have hmn : m < n := by omega
            go_wp2
            refine wp_region_grows (by kernel_rfl) (by kernel_rfl) ?_
            repeat (go_big_quiet_step (fail))
            refine wpQuiet_nil ?_
            rintro _ ⟨g8, rfl⟩
            go_wp2
            go_roundw
            case rel => exact ⟨m + 1, g7.join g8, by omega, by go_num, rfl⟩
            case measure => simp [intOf]; omega
          · obtain rfl : m = k := by omega
            go_wp2
            go_roundw
            case rel => exact ⟨m + 1, g7, by omega, by go_num, rfl⟩
            case measure => simp [intOf]; omega
      · obtain rfl : k = n := by omega
        go_wp2_with (go_at_call 9; refine (alive_any _).mono ?_; rintro e w' ⟨rfl, g9, rfl⟩)
        go_ret
        exact gr_mk rfl (by repeat (with_reducible first | exact hC4 | exact Chg.refl _ _ | refine chg_m ?_ _ | refine chg_g ?_ _ | refine chg_alloc ?_ _ | refine chg_drew ?_ | refine chg_drewN ?_ _ | refine chg_set ?_ _ _ _))
end Go.Proofs.Yteemkceceaabkaa
