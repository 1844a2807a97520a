/- BagMoved. -/
import Derived.Test.YteemkceceaabkaaN
import Derived.Test.YteemkceceaabkaaU
import Derived.Test.YteemkceceaabkaaR
namespace Go.Proofs.Yteemkceceaabkaa
open Go.RowKit Go.Ear
set_option maxHeartbeats 2000000
set_option maxRecDepth 100000

theorem ins_erase {α : Type} (l : List α) (i : Nat) (x : α) (h : l[i]? = some x) : (l.eraseIdx i).insertIdx i x = l := by
  induction i generalizing l with
  | zero => cases l with
    | nil => cases h
    | cons y l => simp at h; simp [h]
  | succ i ih => cases l with
    | nil => cases h
    | cons y l => simp at h; simp [ih l h]

theorem moved_out (ops : List OpS) (A : Option Addr) (c : Nat) (i to : Int) (w : World) (hS : Scr w A ops) (hl : lightF ops = false) :
    Calls Try.prog 5 #[.slice A ops.length c, i64 i, i64 to] w (Gr (.bool true) w) := by
  have hlight := fun W h => light_any ops A c W h
  rw [hl] at hlight
  clear hl
  have hnew := new_good 60
  go_enter Try.func5, Try.ntmps5
  go_wp2_with (first
    | (go_at_call 10; refine (hnew _ (by omega) (by omega)).mono ?_; rintro e w' ⟨rfl, ⟨g1, rfl⟩, hB⟩)
    | (go_at_call 16; refine (hlight _ (hS.grow (by repeat (with_reducible first | exact Chg.refl _ _ | refine chg_m ?_ _ | refine chg_g ?_ _ | refine chg_alloc ?_ _ | refine chg_drew ?_ | refine chg_drewN ?_ _ | refine chg_set ?_ _ _ _)))).mono ?_; rintro e w' ⟨rfl, g2, rfl⟩)
    | (go_at_call 9; refine (alive_any _).mono ?_; rintro e w' ⟨rfl, g3, rfl⟩))
  go_ret
  exact gr_mk rfl (by repeat (with_reducible first | exact Chg.refl _ _ | refine chg_m ?_ _ | refine chg_g ?_ _ | refine chg_alloc ?_ _ | refine chg_drew ?_ | refine chg_drewN ?_ _ | refine chg_set ?_ _ _ _))

theorem moved_any (ops : List OpS) (A : Option Addr) (c : Nat) (i to : Int) (w : World) (hS : Scr w A ops) :
    Calls Try.prog 5 #[.slice A ops.length c, i64 i, i64 to] w (Gr (.bool true) w) := by
  cases hl : lightF ops
  · exact moved_out ops A c i to w hS hl
  · skip
    have hlight := fun W h => light_any ops A c W h
    rw [hl] at hlight
    obtain ⟨hn, hl2⟩ : ops.length ≤ 150 ∧ ∀ o ∈ ops, o.data.length ≤ 2000 := by simpa [lightF] using hl
    clear hl
    have hnew := new_good 60
    have hrun := fun W h => run_any w.heap.size ⟨60, 0, []⟩ ops A c w W hS h hn hl2 (by simp) (Nat.le_refl _)
    have hinv := inv_run (r := 60) (by omega) ops
    generalize runS ⟨60, 0, []⟩ ops = S at *
    obtain ⟨⟨r, last, L⟩, mm, tt⟩ := S
    have hroom := hinv.room
    have hfits := hinv.fits
    simp only at hrun hroom hfits
    subst hroom
    have HI := Lib.hid hinv
    clear hinv
    have hsm : ∀ g ∈ L, g.data.length ≤ 1024 := HI.out.small
    have HSM := Lib.hid hsm
    clear hsm
    have hall := fun p F W h => all_any p ⟨60, last, L⟩ F W h
    simp only at hall
    obtain ⟨n, hnL⟩ : ∃ n, n = L.length := ⟨_, rfl⟩
    have hfit2 : n ≤ 60 := by omega
    rw [← hnL] at hall
    have HN := Lib.hid hnL
    clear hfits
    by_cases hbad : askedF n [i, to] = 91
    · have hmv := fun F W h => move_bad w.heap.size ⟨60, last, L⟩ F i to W h (by simp only; rw [← hnL]; exact hbad)
      clear hbad hnL
      go_enter Try.func5, Try.ntmps5
      go_wp2_with (first
        | (go_at_call 10; refine (hnew _ (by omega) (by omega)).mono ?_; rintro e w' ⟨rfl, ⟨g1, rfl⟩, hB⟩)
        | (go_at_call 16; refine (hlight _ (hS.grow (by repeat (with_reducible first | exact Chg.refl _ _ | refine chg_m ?_ _ | refine chg_g ?_ _ | refine chg_alloc ?_ _ | refine chg_drew ?_ | refine chg_drewN ?_ _ | refine chg_set ?_ _ _ _)))).mono ?_; rintro e w' ⟨rfl, g2, rfl⟩)
        | (go_at_call 17; refine (hrun _ ⟨g1.join g2, rfl, _, hB.grow g2.h, fun k hk => by omega⟩).mono ?_; rintro e w' ⟨rfl, g3, rfl, F, hB3, hF3⟩))
      refine (hall _ _ _ hB3).mono ?_
      rintro e X ⟨A1, c1, vs, rfl, ⟨g4, e4⟩, hgl⟩
      have hB4 : IsBag X w.heap.size ⟨60, last, L⟩ F := by rw [e4]; exact hB3.grow g4.h
      have hC4 : Chg Noth w X := by rw [e4]; exact g3.h.trans g4.h (fun _ _ e => e)
      clear e4 g4 hrun hnew hlight hB hB3
      go_wp2_with (go_at_call 23; refine (hmv _ _ (hB4.grow (by repeat (with_reducible first | exact Chg.refl _ _ | refine chg_m ?_ _ | refine chg_g ?_ _ | refine chg_alloc ?_ _ | refine chg_drew ?_ | refine chg_drewN ?_ _ | refine chg_set ?_ _ _ _)))).mono ?_; rintro e w' ⟨rfl, g5, rfl⟩)
      refine (hall _ _ _ (hB4.grow (by repeat (with_reducible first | exact Chg.refl _ _ | refine chg_m ?_ _ | refine chg_g ?_ _ | refine chg_alloc ?_ _ | refine chg_drew ?_ | refine chg_drewN ?_ _ | refine chg_set ?_ _ _ _)))).mono ?_
      rintro e Y ⟨A2, c2, us, rfl, ⟨g6, e6⟩, hgl2⟩
      have hCXY : Chg Noth X Y := by rw [e6]; repeat (with_reducible first | exact Chg.refl _ _ | refine chg_m ?_ _ | refine chg_g ?_ _ | refine chg_alloc ?_ _ | refine chg_drew ?_ | refine chg_drewN ?_ _ | refine chg_set ?_ _ _ _)
      clear e6 g6 hall
      have hglY : GL Y _ _ _ _ := hgl.grow hCXY
      go_wp2_with (first
        | (go_at_call 9; refine (alive_any _).mono ?_; rintro e w' ⟨rfl, g7, rfl⟩)
        | (go_at_call 24; refine (sameBag_any A1 A2 c1 c2 vs us L n _ _ HN.out _ (hglY.grow (by repeat (with_reducible first | exact Chg.refl _ _ | refine chg_m ?_ _ | refine chg_g ?_ _ | refine chg_alloc ?_ _ | refine chg_drew ?_ | refine chg_drewN ?_ _ | refine chg_set ?_ _ _ _))) (hgl2.grow (by repeat (with_reducible first | exact Chg.refl _ _ | refine chg_m ?_ _ | refine chg_g ?_ _ | refine chg_alloc ?_ _ | refine chg_drew ?_ | refine chg_drewN ?_ _ | refine chg_set ?_ _ _ _))) HSM.out (by omega)).mono ?_; rintro e w' ⟨rfl, g8, rfl⟩))
      go_ret
      exact gr_mk rfl (by repeat (with_reducible first | exact hC4.trans hCXY (fun _ _ e => e) | exact Chg.refl _ _ | refine chg_m ?_ _ | refine chg_g ?_ _ | refine chg_alloc ?_ _ | refine chg_drew ?_ | refine chg_drewN ?_ _ | refine chg_set ?_ _ _ _))
    · have hh : (0 ≤ i ∧ i < (n : Int)) ∧ 0 ≤ to ∧ to < (n : Int) := by
        simp only [askedF] at hbad
        split at hbad
        · exact (hbad rfl).elim
        · split at hbad
          · exact (hbad rfl).elim
          · omega
      clear hbad
      obtain ⟨i, rfl⟩ := Int.eq_ofNat_of_zero_le hh.1.1
      obtain ⟨j, rfl⟩ := Int.eq_ofNat_of_zero_le hh.2.1
      have hi : i < n := by omega
      have hj : j < n := by omega
      clear hh
      obtain ⟨x, hx⟩ : ∃ x, L[i]? = some x := ⟨_, List.getElem?_eq_getElem (by omega)⟩
      have hxs := HSM.out x (List.mem_of_getElem? hx)
      have hel : (L.eraseIdx i).length = L.length - 1 := List.length_eraseIdx_of_lt (by omega)
      have hx2 : ((L.eraseIdx i).insertIdx j x)[j]? = some x := by rw [List.getElem?_insertIdx_self, if_pos (by omega)]
      have hl2' : ((L.eraseIdx i).insertIdx j x).length = n := by rw [List.length_insertIdx_of_le_length (by omega), hel]; omega
      have hback : (((L.eraseIdx i).insertIdx j x).eraseIdx j).insertIdx i x = L := by rw [List.eraseIdx_insertIdx_self]; exact ins_erase L i x hx
      have hmv := fun F W h => move_good w.heap.size i j ⟨60, last, L⟩ F W h x hx (by simp only; omega)
      have hat := fun F W h => at_good w.heap.size j ⟨60, last, (L.eraseIdx i).insertIdx j x⟩ F W h x hx2
      have hmv2 := fun F W h => move_good w.heap.size j i ⟨60, last, (L.eraseIdx i).insertIdx j x⟩ F W h x hx2 (by simp only; omega)
      simp only [hback] at hmv hmv2
      generalize (L.eraseIdx i).insertIdx j x = L2 at *
      have HX := Lib.hid hx
      have hni : ¬ (n : Int) ≤ i := by omega
      have hnj : ¬ (n : Int) ≤ j := by omega
      clear hx hx2 hl2' hback hel hnL
      go_enter Try.func5, Try.ntmps5
      go_wp2_with (first
        | (go_at_call 10; refine (hnew _ (by omega) (by omega)).mono ?_; rintro e w' ⟨rfl, ⟨g1, rfl⟩, hB⟩)
        | (go_at_call 16; refine (hlight _ (hS.grow (by repeat (with_reducible first | exact Chg.refl _ _ | refine chg_m ?_ _ | refine chg_g ?_ _ | refine chg_alloc ?_ _ | refine chg_drew ?_ | refine chg_drewN ?_ _ | refine chg_set ?_ _ _ _)))).mono ?_; rintro e w' ⟨rfl, g2, rfl⟩)
        | (go_at_call 17; refine (hrun _ ⟨g1.join g2, rfl, _, hB.grow g2.h, fun k hk => by omega⟩).mono ?_; rintro e w' ⟨rfl, g3, rfl, F, hB3, hF3⟩))
      have hFb : ∀ k, F k → k < g3.w.heap.size := fun k hk => hB3.lt hk
      refine (hall _ _ _ hB3).mono ?_
      rintro e X ⟨A1, c1, vs, rfl, ⟨g4, e4⟩, hgl⟩
      have hB4 : IsBag X w.heap.size ⟨60, last, L⟩ F := by rw [e4]; exact hB3.grow g4.h
      have hC4 : Chg Noth w X := by rw [e4]; exact g3.h.trans g4.h (fun _ _ e => e)
      have hb1 : g3.w.heap.size ≤ X.heap.size := by rw [e4]; exact g4.h.size
      have hglt : ∀ k, ((Value.slice A1 n c1).ownBlock = some k ∨ ∃ v ∈ vs, v.ownBlock = some k) → g3.w.heap.size ≤ k ∧ k < X.heap.size := fun k hk => hgl.blk k hk
      generalize g3.w.heap.size = b1 at *
      clear e4 g4 hrun hnew hlight hB hB3
      go_wp2_with fail
      refine (hmv _ _ hB4).mono ?_
      rintro e Y ⟨rfl, m, F2, e5, hB5, hF2⟩
      have hCY : Chg F X Y := by rw [e5]; exact m.h
      rw [← e5] at hB5
      have hCw : Chg Noth w Y := hC4.trans hCY fun k hk hf => by have := hF3 k hf; omega
      have hglY : GL Y b1 (.slice A1 n c1) vs L := hgl.chg hCY fun k _ hk e => by have := hglt k hk; have := hFb k e; omega
      have hszY := hCY.size
      have hne : ∀ k, ((Value.slice A1 n c1).ownBlock = some k ∨ ∃ v ∈ vs, v.ownBlock = some k) → ¬ F2 k := fun k hk e => by
        have h1 := hglt k hk
        rcases hF2 k e with h | h
        · have := hFb k h; omega
        · omega
      have hF2w : ∀ k, F2 k → w.heap.size ≤ k := fun k hk => by
        rcases hF2 k hk with h | h
        · exact hF3 k h
        · have := hC4.size; omega
      have hF2lt : ∀ k, F2 k → k < Y.heap.size := fun k hk => hB5.lt hk
      clear e5 m hgl hmv hB4 hFb hF2
      go_wp2_with fail
      refine (hat _ _ hB5).mono ?_
      rintro e Z ⟨A2, c2, rfl, ho, g6, e6⟩
      have hCYZ : Chg Noth Y Z := by rw [e6]; exact g6.h
      have hs2 : SL Z (.slice A2 x.data.length c2) x.data.length 1 (bv x.data) := SL.of_own ho
      have hrow2 : ∀ k, (Value.slice A2 x.data.length c2).ownBlock = some k → Y.heap.size ≤ k ∧ k < Z.heap.size := fun k hk => ho.lt k hk
      have hB6 : IsBag Z w.heap.size ⟨60, last, L2⟩ F2 := hB5.grow hCYZ
      have hglZ : GL Z b1 (.slice A1 n c1) vs L := hglY.grow hCYZ
      have hCwZ : Chg Noth w Z := hCw.trans hCYZ fun _ _ e => e
      have hszZ := hCYZ.size
      clear e6 g6 hB5 ho hat
      obtain ⟨ga, D, dc, e1, l1, a0, a1, a2, a3, s1, _⟩ := hglZ.at i x HX.out
      cases e1
      have i1 : Old ga Z := ⟨l1⟩
      have hc21 := fun (W : World) (hc : Chg Noth Z W) => sameGram_any x.id x.fr x.to A2 D c2 dc x.data x.data.length rfl W (hs2.grow hc) (s1.grow hc) (by omega)
      go_wp2_with fail
      go_region_law (first
        | (go_simp; go_at_call 21; refine (hc21 _ (by repeat (with_reducible first | exact Chg.refl _ _ | refine chg_m ?_ _ | refine chg_g ?_ _ | refine chg_alloc ?_ _ | refine chg_drew ?_ | refine chg_drewN ?_ _ | refine chg_set ?_ _ _ _))).mono ?_; rintro e w' ⟨rfl, g7, rfl⟩)
        | (go_simp; go_at_call 23; refine (hmv2 F2 _ (hB6.grow (by repeat (with_reducible first | exact Chg.refl _ _ | refine chg_m ?_ _ | refine chg_g ?_ _ | refine chg_alloc ?_ _ | refine chg_drew ?_ | refine chg_drewN ?_ _ | refine chg_set ?_ _ _ _)))).mono ?_; rintro e w' ⟨rfl, m8, F3, rfl, hB7, hF37⟩))
      all_goals
        have hZg : Chg Noth Z g7.w := by repeat (with_reducible first | exact Chg.refl _ _ | refine chg_m ?_ _ | refine chg_g ?_ _ | refine chg_alloc ?_ _ | refine chg_drew ?_ | refine chg_drewN ?_ _ | refine chg_set ?_ _ _ _)
        have hglM : GL m8.w b1 (.slice (some ⟨ga, 0, none⟩) n c1) vs L := (hglZ.grow hZg).chg m8.h fun k _ hk e => hne k hk e
        have hCwM : Chg Noth w m8.w := (hCwZ.trans hZg fun _ _ e => e).trans m8.h fun k hk e => by have := hF2w k e; omega
        clear hmv2 hc21 hglZ hglY
        go_wp2_with fail
        refine (hall _ _ _ hB7).mono ?_
        rintro e V ⟨A3, c3, us, rfl, ⟨g9, e9⟩, hgl3⟩
        have hCV : Chg Noth m8.w V := by rw [e9]; exact g9.h
        have hCwV : Chg Noth w V := hCwM.trans hCV fun _ _ e => e
        have hglV := hglM.grow hCV
        clear e9 g9 hall hCV hCwM hglM hB7
        have hc24 := fun (W : World) (hc : Chg Noth V W) => sameBag_any (some ⟨ga, 0, none⟩) A3 c1 c3 vs us L n _ _ HN.out W (hglV.grow hc) (hgl3.grow hc) HSM.out (by omega)
        clear hgl3 hglV hglt hne
        go_wp2_with (first
          | (go_at_call 9; refine (alive_any _).mono ?_; rintro e w' ⟨rfl, g10, rfl⟩)
          | (go_at_call 24; refine (hc24 _ (by repeat (with_reducible first | exact Chg.refl _ _ | refine chg_m ?_ _ | refine chg_g ?_ _ | refine chg_alloc ?_ _ | refine chg_drew ?_ | refine chg_drewN ?_ _ | refine chg_set ?_ _ _ _))).mono ?_; rintro e w' ⟨rfl, g11, rfl⟩))
        go_ret
        exact gr_mk rfl (by repeat (with_reducible first | exact hCwV | exact Chg.refl _ _ | refine chg_m ?_ _ | refine chg_g ?_ _ | refine chg_alloc ?_ _ | refine chg_drew ?_ | refine chg_drewN ?_ _ | refine chg_set ?_ _ _ _))
end Go.Proofs.Yteemkceceaabkaa
