/- BagDoubled. -/
import Derived.Test.YteemkceceaabkaaO
import Derived.Test.YteemkceceaabkaaQ
namespace Go.Proofs.Yteemkceceaabkaa
open Go.RowKit Go.Ear
set_option maxHeartbeats 1000000
set_option maxRecDepth 40000

theorem Scr.grow {w w' : World} {A : Option Addr} {ops : List OpS} (h : Scr w A ops) (hc : Chg Noth w w') : Scr w' A ops := by
  refine ⟨fun k o ho => ?_, h.range⟩
  obtain ⟨b, off, D, c, rfl, hb, a0, a1, a2, a3, a4, a5, hd⟩ := h.cells k o ho
  have hcell : ∀ q, w'.cell? ⟨b, q, none⟩ = w.cell? ⟨b, q, none⟩ := fun q => hc.cell (p := ⟨b, q, none⟩) hb (fun e => e)
  exact ⟨b, off, D, c, rfl, Nat.lt_of_lt_of_le hb hc.size, (hcell _).trans a0, (hcell _).trans a1, (hcell _).trans a2, (hcell _).trans a3, (hcell _).trans a4, (hcell _).trans a5, hd.grow hc⟩

theorem double_bad (p : Nat) (B : BagS) (F : Nat → Prop) (i : Int) (w : World) (hB : IsBag w p B F) (h : i < 0 ∨ (B.l.length : Int) ≤ i) :
    Calls Try.prog 19 #[.pointer (some ⟨p, 0, none⟩), i64 i] w (Gr (.tuple #[i64 0, i64 91]) w) := by
  have ha := asked_bad h
  go_enter Try.func19, Try.ntmps19
  go_wp2_with (go_at_call 34; refine (asked_one p B F _ _ i _ (hB.grow (by repeat (with_reducible first | exact Chg.refl _ _ | refine chg_m ?_ _ | refine chg_g ?_ _ | refine chg_alloc ?_ _ | refine chg_drew ?_ | refine chg_drewN ?_ _ | refine chg_set ?_ _ _ _))) (by simp [go_sem]) (Old.lt (b := w.heap.size))).mono ?_; rintro e w' ⟨rfl, g1, rfl⟩)
  exact bodyPost_ret (v := .tuple #[i64 0, i64 91]) (by simp [results, Try.results19, go_sem]) rfl (gr_mk rfl (by
    repeat (with_reducible first | exact Chg.refl _ _ | refine chg_m ?_ _ | refine chg_g ?_ _ | refine chg_alloc ?_ _ | refine chg_drew ?_ | refine chg_drewN ?_ _ | refine chg_set ?_ _ _ _)))
theorem run_len (r : Int) (h : 0 ≤ r) (ops : List OpS) : (runS ⟨r, 0, []⟩ ops).1.l.length ≤ ops.length := by
  have h1 := inv_run h ops
  have h2 := fold_bounds (⟨r, 0, []⟩, 0, 0) ops
  have h3 := h1.count
  unfold runS at *
  simp only at h2 h3
  omega

theorem doubled_any (ops : List OpS) (A : Option Addr) (c : Nat) (i : Int) (w : World) (hS : Scr w A ops) :
    Calls Try.prog 4 #[.slice A ops.length c, i64 i] w (Gr (.bool true) w) := by
  have hnew := new_good 200
  have hlight := fun W h => light_any ops A c W h
  cases hl : lightF ops
  · rw [hl] at hlight
    clear hl
    go_enter Try.func4, Try.ntmps4
    go_wp2_with (first
      | (go_at_call 10; refine (hnew _ (by omega) (by omega)).mono ?_; rintro e w' ⟨rfl, ⟨g1, rfl⟩, hB⟩)
      | (go_at_call 16; refine (hlight _ (hS.grow (by repeat (with_reducible first | exact Chg.refl _ _ | refine chg_m ?_ _ | refine chg_g ?_ _ | refine chg_alloc ?_ _ | refine chg_drew ?_ | refine chg_drewN ?_ _ | refine chg_set ?_ _ _ _)))).mono ?_; rintro e w' ⟨rfl, g2, rfl⟩)
      | (go_at_call 9; refine (alive_any _).mono ?_; rintro e w' ⟨rfl, g3, rfl⟩))
    go_ret
    exact gr_mk rfl (by
      repeat (with_reducible first | exact Chg.refl _ _ | refine chg_m ?_ _ | refine chg_g ?_ _ | refine chg_alloc ?_ _ | refine chg_drew ?_ | refine chg_drewN ?_ _ | refine chg_set ?_ _ _ _))
  · rw [hl] at hlight
    have hl2 : ops.length ≤ 150 ∧ ∀ o ∈ ops, o.data.length ≤ 2000 := by simpa [lightF] using hl
    clear hl
    obtain ⟨hn, hl2⟩ := hl2
    have hrun := fun W h h2 h3 => run_any w.heap.size ⟨200, 0, []⟩ ops A c w W hS h hn hl2 h2 h3
    have hinv := inv_run (r := 200) (by omega) ops
    have hlen := run_len 200 (by omega) ops
    have hbd := (fold_bounds (⟨200, 0, []⟩, 0, 0) ops).1
    rw [show ops.foldl stepS (⟨200, 0, []⟩, 0, 0) = runS ⟨200, 0, []⟩ ops from rfl] at hbd
    generalize runS ⟨200, 0, []⟩ ops = S at *
    obtain ⟨B, mm, tt⟩ := S
    simp only at hrun hlen hbd
    have hla : B.last < 1000000000000 := by omega
    have hBl : B.l.length ≤ 150 := by omega
    have HI := Lib.hid hinv
    clear hinv hbd hlen
    by_cases hbad : i < 0 ∨ (B.l.length : Int) ≤ i
    · have hat := fun F W h => at_bad w.heap.size B F i W h hbad
      have hdb := fun F W h => double_bad w.heap.size B F i W h hbad
      go_enter Try.func4, Try.ntmps4
      go_wp2_with (first
        | (go_at_call 10; refine (hnew _ (by omega) (by omega)).mono ?_; rintro e w' ⟨rfl, ⟨g1, rfl⟩, hB⟩)
        | (go_at_call 16; refine (hlight _ (hS.grow (by repeat (with_reducible first | exact Chg.refl _ _ | refine chg_m ?_ _ | refine chg_g ?_ _ | refine chg_alloc ?_ _ | refine chg_drew ?_ | refine chg_drewN ?_ _ | refine chg_set ?_ _ _ _)))).mono ?_; rintro e w' ⟨rfl, g2, rfl⟩)
        | (go_at_call 17; refine (hrun _ ⟨g1.join g2, rfl, _, hB.grow g2.h, fun k hk => by omega⟩ (by simp) (by omega)).mono ?_; rintro e w' ⟨rfl, g3, rfl, F, hB3, hF3⟩)
        | (go_at_call 18; refine (hat _ _ (hB3.grow (by repeat (with_reducible first | exact Chg.refl _ _ | refine chg_m ?_ _ | refine chg_g ?_ _ | refine chg_alloc ?_ _ | refine chg_drew ?_ | refine chg_drewN ?_ _ | refine chg_set ?_ _ _ _)))).mono ?_; rintro e w' ⟨rfl, g4, rfl⟩; have hB4 : IsBag (g3.join g4).w w.heap.size B F := hB3.grow g4.h)
        | (go_at_call 19; refine (hdb _ _ (hB4.grow (by repeat (with_reducible first | exact Chg.refl _ _ | refine chg_m ?_ _ | refine chg_g ?_ _ | refine chg_alloc ?_ _ | refine chg_drew ?_ | refine chg_drewN ?_ _ | refine chg_set ?_ _ _ _)))).mono ?_; rintro e w' ⟨rfl, g5, rfl⟩)
        | (go_at_call 9; refine (alive_any _).mono ?_; rintro e w' ⟨rfl, g6, rfl⟩))
      go_ret
      exact gr_mk rfl (by
        repeat (with_reducible first | exact Chg.refl _ _ | refine chg_m ?_ _ | refine chg_g ?_ _ | refine chg_alloc ?_ _ | refine chg_drew ?_ | refine chg_drewN ?_ _ | refine chg_set ?_ _ _ _))
    · obtain ⟨i, rfl⟩ := Int.eq_ofNat_of_zero_le (show 0 ≤ i by omega)
      have hi : i < B.l.length := by omega
      obtain ⟨x, hx⟩ : ∃ x, B.l[i]? = some x := ⟨_, List.getElem?_eq_getElem hi⟩
      have hxs := HI.out.small x (List.mem_of_getElem? hx)
      have hxi := (HI.out.ids x (List.mem_of_getElem? hx)).2
      have hroom := HI.out.room
      simp only at hroom hxi
      have ed : doubleS B (i : Int) = (⟨B.room, B.last + 1, B.l ++ [⟨B.last + 1, x.fr, x.to, x.data⟩]⟩, B.last + 1, 0) := by
        simp only [doubleS, if_neg (show ¬ (i : Int) < 0 by omega), Int.toNat_natCast, hx, putS]
        rw [if_neg (by omega)]
      have hat := fun F W h => at_good w.heap.size i B F W h x hx
      have hdb := fun F W h => double_any w.heap.size B F (i : Int) W h hla
      rw [ed] at hdb
      have hlen := fun F W h => len_any w.heap.size ⟨B.room, B.last + 1, B.l ++ [⟨B.last + 1, x.fr, x.to, x.data⟩]⟩ F W h
      have hat2 := fun F W h => at_good w.heap.size B.l.length ⟨B.room, B.last + 1, B.l ++ [⟨B.last + 1, x.fr, x.to, x.data⟩]⟩ F W h ⟨B.last + 1, x.fr, x.to, x.data⟩ (by simp)
      have hsp := fun F W h => spoil_any w.heap.size ⟨B.room, B.last + 1, B.l ++ [⟨B.last + 1, x.fr, x.to, x.data⟩]⟩ F (B.l.length : Int) 0 255 W h (by omega)
      have hsx : (spoilS ⟨B.room, B.last + 1, B.l ++ [⟨B.last + 1, x.fr, x.to, x.data⟩]⟩ (B.l.length : Int) 0 255).1.l[i]? = some x := by
        have e0 : (B.l ++ [(⟨B.last + 1, x.fr, x.to, x.data⟩ : Gm)])[i]? = some x := by rw [List.getElem?_append_left hi]; exact hx
        unfold spoilS
        split
        · exact e0
        · split
          · exact e0
          · split
            · exact e0
            · simp only [Int.toNat_natCast]
              rw [List.getElem?_set_ne (by omega)]
              exact e0
      generalize spoilS ⟨B.room, B.last + 1, B.l ++ [⟨B.last + 1, x.fr, x.to, x.data⟩]⟩ (B.l.length : Int) 0 255 = R at hsp hsx
      obtain ⟨B3, r3⟩ := R
      simp only at hsp hsx
      have hat3 := fun F W h => at_good w.heap.size i B3 F W h x hsx
      simp only [List.length_append, List.length_cons, List.length_nil, Int.natCast_add, Int.natCast_zero, Int.zero_add, Int.natCast_one] at hlen
      have hwr : IntKind.i64.wrap ((B.l.length : Int) + 1 - 1) = (B.l.length : Int) := by rw [IntKind.wrap_i64]; omega
      generalize hB2 : (⟨B.room, B.last + 1, B.l ++ [⟨B.last + 1, x.fr, x.to, x.data⟩]⟩ : BagS) = B2 at *
      clear ed
      go_enter Try.func4, Try.ntmps4
      go_wp2_with (first
        | (go_at_call 10; refine (hnew _ (by omega) (by omega)).mono ?_; rintro e w' ⟨rfl, ⟨g1, rfl⟩, hB⟩)
        | (go_at_call 16; refine (hlight _ (hS.grow (by repeat (with_reducible first | exact Chg.refl _ _ | refine chg_m ?_ _ | refine chg_g ?_ _ | refine chg_alloc ?_ _ | refine chg_drew ?_ | refine chg_drewN ?_ _ | refine chg_set ?_ _ _ _)))).mono ?_; rintro e w' ⟨rfl, g2, rfl⟩)
        | (go_at_call 17; refine (hrun _ ⟨g1.join g2, rfl, _, hB.grow g2.h, fun k hk => by omega⟩ (by simp) (by omega)).mono ?_; rintro e w' ⟨rfl, g3, rfl, F, hB3, hF3⟩)
        | (go_at_call 18; refine (hat _ _ (hB3.grow (by repeat (with_reducible first | exact Chg.refl _ _ | refine chg_m ?_ _ | refine chg_g ?_ _ | refine chg_alloc ?_ _ | refine chg_drew ?_ | refine chg_drewN ?_ _ | refine chg_set ?_ _ _ _)))).mono ?_; rintro e w' ⟨A1, c1, rfl, ho, g4, rfl⟩))
      have hB4 : IsBag (g3.join g4).w w.heap.size B F := hB3.grow g4.h
      have hFlt : ∀ k, F k → k < g3.w.heap.size := fun k hk => hB3.lt hk
      have i9 : Foot F g3.w := ⟨hFlt⟩
      have hs1 : SL (g3.join g4).w (.slice A1 x.data.length c1) x.data.length 1 (bv x.data) := SL.of_own ho
      have hlt1 : ∀ k, (Value.slice A1 x.data.length c1).ownBlock = some k → g3.w.heap.size ≤ k ∧ k < (g3.join g4).w.heap.size := fun k hk => ho.lt k hk
      have hsz4 : g3.w.heap.size ≤ (g3.join g4).w.heap.size := g4.h.size
      clear ho hB3 hnew hlight hrun hB
      refine (hdb _ _ (hB4.grow (by repeat (with_reducible first | exact Chg.refl _ _ | refine chg_m ?_ _ | refine chg_g ?_ _ | refine chg_alloc ?_ _ | refine chg_drew ?_ | refine chg_drewN ?_ _ | refine chg_set ?_ _ _ _)))).mono ?_
      rintro e w' ⟨rfl, m, F2, rfl, hB5, hF2⟩
      simp only [World.size_alloc] at hF2
      have hs1m : SL m.w (.slice A1 x.data.length c1) x.data.length 1 (bv x.data) := (hs1.grow (chg_alloc (Chg.refl _ _) _)).chg m.h (fun k _ hk e => by have := hFlt k e; have := hlt1 k hk; omega)
      have i10 : Out (g3.join g4).w.heap.size F2 := ⟨fun e => by rcases hF2 _ e with h | h; have := hFlt _ h; omega; omega⟩
      have hF2lt : ∀ k, F2 k → k < m.w.heap.size := fun k hk => hB5.lt hk
      have i11 : Foot F2 m.w := ⟨hF2lt⟩
      have hCm : Chg Noth w m.w := Chg.trans (G := F) (by repeat (with_reducible first | exact Chg.refl _ _ | refine chg_m ?_ _ | refine chg_g ?_ _ | refine chg_alloc ?_ _ | refine chg_drew ?_ | refine chg_drewN ?_ _ | refine chg_set ?_ _ _ _)) m.h (fun k hk hf => by have := hF3 k hf; omega)
      go_wp2_with fail
      refine (hlen _ _ hB5).mono ?_
      rintro e w' ⟨rfl, g6, rfl⟩
      have hB6 : IsBag (m.join g6).w w.heap.size B2 F2 := hB5.grow g6.h
      have hs1n : SL (m.join g6).w (.slice A1 x.data.length c1) x.data.length 1 (bv x.data) := hs1m.grow g6.h
      have hC6 : Chg Noth w (m.join g6).w := hCm.trans g6.h (fun _ _ e => e)
      go_wp2_with fail
      refine (hat2 _ _ hB6).mono ?_
      rintro e w' ⟨A2, c2, rfl, ho, g7, rfl⟩
      have hB7 : IsBag ((m.join g6).join g7).w w.heap.size B2 F2 := hB6.grow g7.h
      have hs1o : SL ((m.join g6).join g7).w (.slice A1 x.data.length c1) x.data.length 1 (bv x.data) := hs1n.grow g7.h
      have hs2 : SL ((m.join g6).join g7).w (.slice A2 x.data.length c2) x.data.length 1 (bv x.data) := SL.of_own ho
      have hlt2 : ∀ k, (Value.slice A2 x.data.length c2).ownBlock = some k → (m.join g6).w.heap.size ≤ k ∧ k < ((m.join g6).join g7).w.heap.size := fun k hk => ho.lt k hk
      have hsz6 : m.w.heap.size ≤ (m.join g6).w.heap.size := g6.h.size
      have hsz7 : (m.join g6).w.heap.size ≤ ((m.join g6).join g7).w.heap.size := g7.h.size
      have hC7 : Chg Noth w ((m.join g6).join g7).w := hC6.trans g7.h (fun _ _ e => e)
      have i13 : Out (g3.join g4).w.heap.size F := ⟨fun e => by have := hFlt _ e; omega⟩
      have i12 : Out ((m.join g6).join g7).w.heap.size F2 := ⟨fun e => by have := hF2lt _ e; omega⟩
      clear ho hB6 hs1 hs1m hs1n hB5 hB4
      go_wp2_with fail
      refine (hsp _ _ (hB7.grow (by repeat (with_reducible first | exact Chg.refl _ _ | refine chg_m ?_ _ | refine chg_g ?_ _ | refine chg_alloc ?_ _ | refine chg_drew ?_ | refine chg_drewN ?_ _ | refine chg_set ?_ _ _ _)))).mono ?_
      rintro e w' ⟨rfl, m8, F3, rfl, hB8, hF3'⟩
      have hne1 : ∀ k, (Value.slice A1 x.data.length c1).ownBlock = some k → ¬ F2 k := fun k hk e => by
        have h1 := hlt1 k hk
        rcases hF2 k e with h | h
        · have := hFlt k h; omega
        · omega
      have hs1p : SL m8.w (.slice A1 x.data.length c1) x.data.length 1 (bv x.data) := (hs1o.grow (chg_alloc (Chg.refl _ _) _)).chg m8.h (fun k _ hk e => hne1 k hk e)
      have hs2p : SL m8.w (.slice A2 x.data.length c2) x.data.length 1 (bv x.data) := (hs2.grow (chg_alloc (Chg.refl _ _) _)).chg m8.h (fun k _ hk e => by have := hF2lt k e; have := hlt2 k hk; omega)
      have hC8 : Chg Noth w m8.w := Chg.trans (G := F2) (by repeat (with_reducible first | exact hC7 | exact Chg.refl _ _ | refine chg_m ?_ _ | refine chg_g ?_ _ | refine chg_alloc ?_ _ | refine chg_drew ?_ | refine chg_drewN ?_ _ | refine chg_set ?_ _ _ _)) m8.h (fun k hk e => by rcases hF2 k e with h | h; have := hF3 k h; omega; have := g3.h.size; omega)
      clear hs1o hs2 hB7
      go_wp2_with fail
      refine (hat3 _ _ hB8).mono ?_
      rintro e w' ⟨A3, c3, rfl, ho, g9, rfl⟩
      have hs1q : SL (m8.join g9).w (.slice A1 x.data.length c1) x.data.length 1 (bv x.data) := hs1p.grow g9.h
      have hs2q : SL (m8.join g9).w (.slice A2 x.data.length c2) x.data.length 1 (bv x.data) := hs2p.grow g9.h
      have hs3 : SL (m8.join g9).w (.slice A3 x.data.length c3) x.data.length 1 (bv x.data) := SL.of_own ho
      have hC9 : Chg Noth w (m8.join g9).w := hC8.trans g9.h (fun _ _ e => e)
      clear ho hB8 hs1p hs2p hat hat2 hat3 hsp hdb hlen
      go_wp2_with (first
        | (go_at_call 9; refine (alive_any _).mono ?_; rintro e w' ⟨rfl, g10, rfl⟩)
        | (go_at_call 14; refine (sameBytes_any A2 A1 c2 c1 x.data _ rfl _ (hs2q.grow (by repeat (with_reducible first | exact Chg.refl _ _ | refine chg_m ?_ _ | refine chg_g ?_ _ | refine chg_alloc ?_ _ | refine chg_drew ?_ | refine chg_drewN ?_ _ | refine chg_set ?_ _ _ _))) (hs1q.grow (by repeat (with_reducible first | exact Chg.refl _ _ | refine chg_m ?_ _ | refine chg_g ?_ _ | refine chg_alloc ?_ _ | refine chg_drew ?_ | refine chg_drewN ?_ _ | refine chg_set ?_ _ _ _))) (by omega)).mono ?_; rintro e w' ⟨rfl, g11, rfl⟩)
        | (go_at_call 21; refine (sameGram_any x.id x.fr x.to A3 A1 c3 c1 x.data _ rfl _ (hs3.grow (by repeat (with_reducible first | exact Chg.refl _ _ | refine chg_m ?_ _ | refine chg_g ?_ _ | refine chg_alloc ?_ _ | refine chg_drew ?_ | refine chg_drewN ?_ _ | refine chg_set ?_ _ _ _))) (hs1q.grow (by repeat (with_reducible first | exact Chg.refl _ _ | refine chg_m ?_ _ | refine chg_g ?_ _ | refine chg_alloc ?_ _ | refine chg_drew ?_ | refine chg_drewN ?_ _ | refine chg_set ?_ _ _ _))) (by omega)).mono ?_; rintro e w' ⟨rfl, g12, rfl⟩))
      go_ret
      exact gr_mk rfl (by
        repeat (with_reducible first | exact hC9 | exact Chg.refl _ _ | refine chg_m ?_ _ | refine chg_g ?_ _ | refine chg_alloc ?_ _ | refine chg_drew ?_ | refine chg_drewN ?_ _ | refine chg_set ?_ _ _ _))
end Go.Proofs.Yteemkceceaabkaa
