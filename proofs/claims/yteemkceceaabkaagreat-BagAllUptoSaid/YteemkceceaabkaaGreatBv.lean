/- A step of a script: Send. -/
import Derived.Test.YteemkceceaabkaaGreatBs
import Derived.Test.YteemkceceaabkaaGreatP8
namespace Go.Proofs.YteemkceceaabkaaGreat
open Go.RowKit Go.Ear
set_option maxHeartbeats 1000000
set_option maxRecDepth 100000

theorem lent_sl {w : World} {base g n : Nat} {l : List UInt8} (hn : n = l.length) (hown : Own1 w base (.slice (some ⟨g, 0, none⟩) (n + 9) (n + 9)) (l ++ List.replicate 9 0xA7)) : SL w (.slice (some ⟨g, 0, none⟩) n (n + 9)) n 1 (bv l) := by
  have hl9 : (l ++ List.replicate 9 (0xA7 : UInt8)).length = n + 9 := by simp [hn]
  have hown : w.ownsRow base 5 1 (.slice (some ⟨g, 0, none⟩) (n + 9) (n + 9)) (n + 9) (bv (l ++ List.replicate 9 0xA7)) := by
    have := hown
    unfold Own1 at this
    rwa [hl9] at this
  have hg : g < w.heap.size := (hown.lt g rfl).2
  refine ⟨by simp [hn], some ⟨g, 0, none⟩, n + 9, rfl, by simp, by omega, fun hp => ⟨g, 0, rfl, hg, fun i u hu => ?_⟩⟩
  have hi : i < l.length := by
    have := (List.getElem?_eq_some_iff.1 hu).1
    simpa using this
  rw [Nat.zero_add, hown.cellAt _ (by omega)]
  simp only [bv, List.map_append]
  rw [List.getElem?_append_left (by simpa using hi)]
  exact hu

theorem StepRest.poke {w Wl W W3 : World} {lb off g : Nat} {cs : Array Value} {p pb : Nat} {B : BagS} {FP FR C F : Nat → Prop} (hb : BothAt w lb off cs p pb B FP FR C F) (c : Chg Noth w Wl) (h : StepRest Wl lb off cs p pb B FP FR C F W) (hc : Chg (fun x => x = g) W W3)
    (h1 : w.heap.size ≤ g) (h2 : g < Wl.heap.size) : StepRest w lb off cs p pb B FP FR C F W3 := by
  obtain ⟨m, cs', B', FP', FR', C', F', rfl, hB, hF, hr⟩ := h
  have hlb : lb < w.heap.size := (Array.getElem?_eq_some_iff.1 hb.ref.blk).1
  have hs := c.size
  have hng : ∀ k, FP' k ∨ FR' k ∨ F' k → k ≠ g := fun k hk e => by
    rcases hF k hk with h | h
    · rcases h with h | h | h
      · have := hb.bag.lt h; omega
      · have := hb.ref.lt h; omega
      · have := hb.book.lt k h; omega
    · omega
  refine ⟨⟨W3, ((c.mono fun _ _ e => e.elim).trans m.h fun _ _ e => e).trans hc fun x hx e => by omega⟩, cs', B', FP', FR', C', F', rfl, hB.chg hc (by omega) (fun x hx => hng x (.inl hx)) (fun x hx => hng x (.inr (.inl hx))) (fun x hx => hng x (.inr (.inr hx))), fun k hk => ?_, hr⟩
  rcases hF k hk with h | h
  · exact .inl h
  · exact .inr (by omega)

theorem step_send (lb off : Nat) (cs : Array Value) (p pb : Nat) (B : BagS) (FP FR C F : Nat → Prop) (w : World) (h : BothAt w lb off cs p pb B FP FR C F) (who i j k : Int) (D : Option Addr) (n dc : Nat) (l : List UInt8) (hn : n = l.length) (hD : SL w (.slice D n dc) n 1 (bv l)) (hDn : 0 < n → ∀ x, (Value.slice D n dc).ownBlock = some x → x ≠ lb ∧ ¬ FP x ∧ ¬ FR x) (hle : n ≤ 100000) (hlast : B.last < 1000000000000) :
    Calls Tryz.prog 21 #[.pointer (some ⟨lb, off, none⟩), (.agg #[i64 1, i64 who, i64 i, i64 j, i64 k, .slice D n dc])] w (StepTo w lb off cs p pb B FP FR C F) := by
  have hblk := h.ref.blk
  have hlb : lb < w.heap.size := (Array.getElem?_eq_some_iff.1 hblk).1
  have i1 : Old lb w := ⟨hlb⟩
  have c0 : w.cell? ⟨lb, off, none⟩ = some (.pointer (some ⟨pb, 0, none⟩)) := by rw [cell_of_row w lb off _ _ _ hblk]; exact h.cp
  have c4 : w.cell? ⟨lb, off + 4, none⟩ = some (.pointer (some ⟨p, 0, none⟩)) := by rw [cell_of_row w lb (off + 4) _ _ _ hblk]; exact h.cb
  have hbag := h.bag
  have href := h.ref
  have hbook := h.book
  have hCF := hbook.core
  have iP : Out lb FP := ⟨h.s4.1⟩
  have iR : Out lb FR := ⟨href.notlb⟩
  have hn2 : ∀ x, FP x → x < w.heap.size := fun x hx => hbag.lt hx
  have hn3 : ∀ x, FR x → x < w.heap.size := fun x hx => href.lt hx
  have hn4 : ∀ x, F x → x < w.heap.size := fun x hx => hbook.lt x hx
  have jP : Foot FP w := ⟨hn2⟩
  have jR : Foot (fun k => k = lb ∨ FR k) w := ⟨fun x hx => by
    rcases hx with hx | hx
    · omega
    · exact hn3 x hx⟩
  obtain ⟨hrm, hla⟩ := sendS_rl B i j l
  have hlent := fun W (hW : SL W (.slice D l.length dc) l.length 1 (bv l)) => lent_any D dc l W hW (by omega)
  have hP := fun A c W hW h2 h3 => send_any pb B FP i j A c l W hW h2 h3 (by omega) hlast
  have hR := fun A c W hW h2 h3 => sendR_any lb (off + 1) cs 63 B FR i j A c l W hW h2 h3 hlast
  have hst := fun base g W h1 h2 => stays_any base g D dc l W h1 h2 (by omega)
  simp only [← hn] at hlent hP hR hst
  generalize hS : sendS B i j l = S at hP hR hrm hla
  obtain ⟨B', rx, re⟩ := S
  dsimp only at hP hR hrm hla
  have HN := Lib.hid hn
  clear hn hS
  have HDN := Lib.hid hDn
  clear hDn
  go_enter Tryz.func21, Tryz.ntmps21
  go_wp2_with (go_at_call 80; refine (hlent _ (hD.grow (by repeat (with_reducible first | exact Chg.refl _ _ | refine chg_m ?_ _ | refine chg_g ?_ _ | refine chg_alloc ?_ _ | refine chg_drew ?_ | refine chg_drewN ?_ _ | refine chg_set ?_ _ _ _)))).mono ?_; rintro e w' ⟨g, rfl, hown, g1, rfl⟩)
  have hc1 : Chg Noth w g1.w := (by repeat (with_reducible first | exact Chg.refl _ _ | refine chg_m ?_ _ | refine chg_g ?_ _ | refine chg_alloc ?_ _ | refine chg_drew ?_ | refine chg_drewN ?_ _ | refine chg_set ?_ _ _ _))
  have hgl : w.heap.size < g := by have := (hown.lt g rfl).1; simp at this; omega
  have hgu : g < g1.w.heap.size := (hown.lt g rfl).2
  have j5 : Old w.heap.size g1.w := inferInstance
  have z2 : g1.w.cell? ⟨w.heap.size, 2, none⟩ = some (i64 i) := by simp [go_sem]
  have z3 : g1.w.cell? ⟨w.heap.size, 3, none⟩ = some (i64 j) := by simp [go_sem]
  have z5 : g1.w.cell? ⟨w.heap.size, 5, none⟩ = some (.slice D n dc) := by simp [go_sem]
  have z0 : g1.w.cell? ⟨lb, off, none⟩ = some (.pointer (some ⟨pb, 0, none⟩)) := by simp [go_sem, c0]
  have hs1 := hc1.size
  have jl : Old lb g1.w := ⟨by omega⟩
  have hown := own_base hown (show w.heap.size ≤ _ by simp)
  generalize g1.w = W1 at *
  have iWL : WLe w W1 := ⟨hs1⟩
  have iL1 : Out w.heap.size FP := ⟨fun hx => by have := hn2 _ hx; omega⟩
  have iL : Out w.heap.size (fun k => k = lb ∨ FR k) := ⟨fun hx => by
    rcases hx with hx | hx
    · omega
    · have := hn3 _ hx; omega⟩
  have hsl := lent_sl HN.out hown
  have hpb := hbag.lt (show FP pb by obtain ⟨gs, vs, hr, hF⟩ := hbag; exact (hF pb).2 (.inl rfl))
  go_wp2
  go_region_held_law (fun W' => W'.cell? ⟨lb, off, none⟩ = some (.pointer (some ⟨pb, 0, none⟩)) ∧ W'.cell? ⟨w.heap.size, 2, none⟩ = some (i64 i) ∧ W'.cell? ⟨w.heap.size, 3, none⟩ = some (i64 j) ∧ W'.cell? ⟨w.heap.size, 5, none⟩ = some (.slice D n dc)) (refine ⟨?_, ?_, ?_, ?_⟩ <;> simp [go_sem, *]) (first | (go_at_call 77; refine (hP (some ⟨g, 0, none⟩) (n + 9) _ ((hbag.grow hc1).grow (by repeat (with_reducible first | exact Chg.refl _ _ | refine chg_m ?_ _ | refine chg_g ?_ _ | refine chg_alloc ?_ _ | refine chg_drew ?_ | refine chg_drewN ?_ _ | refine chg_set ?_ _ _ _))) (hsl.grow (by repeat (with_reducible first | exact Chg.refl _ _ | refine chg_m ?_ _ | refine chg_g ?_ _ | refine chg_alloc ?_ _ | refine chg_drew ?_ | refine chg_drewN ?_ _ | refine chg_set ?_ _ _ _))) (fun _ x hx => by simp [Value.ownBlock] at hx; omega)).mono ?_; rintro e w' ⟨rfl, m1, FP1, rfl, hB1, hf1⟩))
  have hrefM := ((href.grow hc1).grow (chg_drew (Chg.refl _ _))).chg m1.h h.s4.1 fun x hx hx' => h.s1 x hx' hx
  have hDM := ((hD.grow hc1).grow (chg_drew (Chg.refl _ _))).chg' m1.h fun hp x hx => (HDN.out hp x hx).2.1
  have hownM := own_chg (own_chg hown (chg_drew (Chg.refl Noth _)) fun _ _ e => e) m1.h fun x hx e => by simp [Value.ownBlock] at hx; have := hn2 x e; omega
  have hsM : W1.heap.size ≤ m1.w.heap.size := m1.h.size
  have jM : Old w.heap.size m1.w := inferInstance
  have jlM : Old lb m1.w := inferInstance
  have y2 : m1.w.cell? ⟨w.heap.size, 2, none⟩ = some (i64 i) := by simp [go_sem, z2]
  have y3 : m1.w.cell? ⟨w.heap.size, 3, none⟩ = some (i64 j) := by simp [go_sem, z3]
  have y5 : m1.w.cell? ⟨w.heap.size, 5, none⟩ = some (.slice D n dc) := by simp [go_sem, z5]
  have HP1 := Lib.hid (And.intro m1.h (And.intro hB1 hf1))
  generalize m1.w = W2 at *
  clear hf1 hB1 hsl z0 z2 z3 z5
  go_wp2
  go_region_held_law (fun W' => W'.cell? ⟨w.heap.size, 2, none⟩ = some (i64 i) ∧ W'.cell? ⟨w.heap.size, 3, none⟩ = some (i64 j) ∧ W'.cell? ⟨w.heap.size, 5, none⟩ = some (.slice D n dc)) (refine ⟨?_, ?_, ?_⟩ <;> simp [go_sem, *]) (first | (go_at_call 81; refine (hR D dc _ (hrefM.grow (by repeat (with_reducible first | exact Chg.refl _ _ | refine chg_m ?_ _ | refine chg_g ?_ _ | refine chg_alloc ?_ _ | refine chg_drew ?_ | refine chg_drewN ?_ _ | refine chg_set ?_ _ _ _))) (hDM.grow (by repeat (with_reducible first | exact Chg.refl _ _ | refine chg_m ?_ _ | refine chg_g ?_ _ | refine chg_alloc ?_ _ | refine chg_drew ?_ | refine chg_drewN ?_ _ | refine chg_set ?_ _ _ _))) (fun hp x hx => (HDN.out hp x hx).1)).mono ?_; rintro e w' ⟨rfl, m2, gs, FR1, rfl, hB2, hf2⟩))
  have hDM2 := (hDM.grow (chg_drew (Chg.refl _ _))).chg' m2.h fun hp x hx e => by
    have h1 := HDN.out hp x hx
    rcases e with e | e
    · exact h1.1 e
    · exact h1.2.2 e
  have hownM2 := own_chg (own_chg hownM (chg_drew (Chg.refl Noth _)) fun _ _ e => e) m2.h fun x hx e => by
    simp [Value.ownBlock] at hx
    rcases e with e | e
    · omega
    · have := hn3 x e; omega
  have hsM2 : W2.heap.size ≤ m2.w.heap.size := m2.h.size
  have jM2 : Old w.heap.size m2.w := inferInstance
  have x5 : m2.w.cell? ⟨w.heap.size, 5, none⟩ = some (.slice D n dc) := by simp [go_sem, y5]
  have hEnd : StepRest W1 lb off cs p pb B FP FR C F m2.w := turn_end (h.grow hc1) (chg_drew (Chg.refl _ _)) HP1.out.1 HP1.out.2.1 HP1.out.2.2 (chg_drew (Chg.refl _ _)) m2.h hB2 hf2 hrm hla
  have HEnd := Lib.hid hEnd
  generalize m2.w = W3 at *
  clear hEnd hB2 hf2 y2 y3 y5 hrefM
  have hstay := fun W (hW : Chg Noth W3 W) => hst w.heap.size g W (own_chg hownM2 hW fun _ _ e => e) (hDM2.grow hW)
  go_wp2_with (go_at_call 82; refine (hstay _ (by repeat (with_reducible first | exact Chg.refl _ _ | refine chg_m ?_ _ | refine chg_g ?_ _ | refine chg_alloc ?_ _ | refine chg_drew ?_ | refine chg_drewN ?_ _ | refine chg_set ?_ _ _ _))).mono ?_; rintro e w' ⟨rfl, g5, rfl⟩)
  have hC5 := g5.h
  have hl9 : (l ++ List.replicate 9 (0xA7 : UInt8)).length = n + 9 := by simp [← HN.out]
  have hown5 := own_chg hownM2 hC5 fun _ _ e => e
  rw [hl9] at hown5
  have hrow : ∃ cs0 : Array Value, g5.w.heap[g]? = some (.cells cs0 5 (0, 0)) ∧ cs0.size = n + 9 := by
    rcases hown5.2 with ⟨e, _⟩ | ⟨g', cap, cur, e, _, hb, _, _, hz, _⟩
    · cases e
    · cases e
      exact ⟨cur, hb, by simpa using hz⟩
  have HRow := Lib.hid hrow
  have hs5 := hC5.size
  generalize g5.w = W5 at *
  clear hrow hown5 hownM2 hDM2 hstay hown hownM hDM hD
  go_loopw [11] (fun i' wr => ∃ (q : Nat) (cs0 : Array Value), q ≤ n ∧ i' = .int .i64 q ∧ Chg (fun x => x = g) W5 wr ∧ wr.heap[g]? = some (.cells cs0 5 (0, 0)) ∧ cs0.size = n + 9) (fun i' _ => n - (intOf i').toNat)
  case atStart =>
    obtain ⟨cs0, h1, h2⟩ := HRow.out
    exact ⟨0, cs0, Nat.zero_le _, rfl, Chg.refl _ _, h1, h2⟩
  case round =>
    obtain ⟨q, cs0, hq, rfl, hCx, hbx, hz⟩ := hrel
    have HC := Lib.hid hCx
    have HX := Lib.hid hbx
    by_cases hlt : q < n
    · have f0 : wr.frozen? ⟨g, q, none⟩ = false := frozen_of_row _ _ _ _ _ hbx
      have c9 : wr.cell? ⟨g, q, none⟩ = some (cs0[q]'(by omega)) := by rw [cell_of_row _ _ _ _ _ _ hbx]; simp
      have kc : HasCell wr g q := ⟨by rw [c9]; rfl⟩
      have jg : Old g wr := ⟨(Array.getElem?_eq_some_iff.1 hbx).1⟩
      have hset := heap_setCell_same wr g q _ _ (.int .u8 90) hbx
      have HSet := Lib.hid hset
      have hCs : Chg (fun x => x = g) wr (wr.setCell ⟨g, q, none⟩ (.int .u8 90)) := ⟨rfl, rfl, rfl, by simp [World.setCell], fun x _ hx => Below.heap_setCell wr _ _ x hx⟩
      have HCs := Lib.hid hCs
      clear hCx hbx hset hCs
      go_wp2
      go_roundw
      case rel => exact ⟨q + 1, _, by omega, by go_num, HC.out.trans HCs.out fun _ _ e => e, HSet.out, by simpa using hz⟩
      case measure => simp [intOf]; omega
    · obtain rfl : q = n := by omega
      clear hCx hbx
      go_wp2
      exact bodyPost_ret (v := .bool true) (by simp [results, Tryz.results21, go_sem]) rfl ⟨rfl, StepRest.poke h hc1 (HEnd.out.grow hC5) HC.out (by omega) hgu⟩
end Go.Proofs.YteemkceceaabkaaGreat
