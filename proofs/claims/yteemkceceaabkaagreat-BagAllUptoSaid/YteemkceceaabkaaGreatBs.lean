/- One step of a script, of a bag and the document's. -/
import Derived.Test.YteemkceceaabkaaGreatBl
import Derived.Test.YteemkceceaabkaaGreatP5
import Derived.Test.YteemkceceaabkaaGreatP6
import Derived.Test.YteemkceceaabkaaGreatH
import Derived.Deep.RegionHeldLaw
namespace Go.Proofs.YteemkceceaabkaaGreat
open Go.RowKit Go.Ear
set_option maxHeartbeats 1000000
set_option maxRecDepth 100000

/-- What a step may write. -/
abbrev FX (lb : Nat) (FP FR C : Nat → Prop) (k : Nat) : Prop := k = lb ∨ FP k ∨ FR k ∨ C k
/-- What a step leaves. -/
def StepRest (w : World) (lb off : Nat) (cs : Array Value) (p pb : Nat) (B : BagS) (FP FR C F : Nat → Prop) (w' : World) : Prop :=
  ∃ (m : Muts (FX lb FP FR C) w) (cs' : Array Value) (B' : BagS) (FP' FR' C' F' : Nat → Prop), w' = m.w ∧ BothAt m.w lb off cs' p pb B' FP' FR' C' F' ∧
    (∀ k, FP' k ∨ FR' k ∨ F' k → (FP k ∨ FR k ∨ F k) ∨ w.heap.size ≤ k) ∧ (∀ i, ¬ (off ≤ i ∧ i < off + 5) → cs'[i]? = cs[i]?) ∧ B'.room = B.room ∧ B'.last ≤ B.last + 1
def StepTo (w : World) (lb off : Nat) (cs : Array Value) (p pb : Nat) (B : BagS) (FP FR C F : Nat → Prop) : Ending → World → Prop := fun e w' =>
  e = .returned (.bool true) ∧ StepRest w lb off cs p pb B FP FR C F w'
theorem StepRest.grow {w W W' : World} {lb off : Nat} {cs : Array Value} {p pb : Nat} {B : BagS} {FP FR C F : Nat → Prop} (h : StepRest w lb off cs p pb B FP FR C F W) (hc : Chg Noth W W') : StepRest w lb off cs p pb B FP FR C F W' := by
  obtain ⟨m, cs', B', FP', FR', C', F', rfl, h1, h2⟩ := h
  exact ⟨⟨W', m.h.trans hc fun _ _ e => e.elim⟩, cs', B', FP', FR', C', F', rfl, h1.grow hc, h2⟩

theorem turn_end {w W1 W1' W2 W2' : World} {lb off : Nat} {cs : Array Value} {p pb : Nat} {B B' : BagS} {FP FR C F FP' FR' : Nat → Prop} {gs : Value} (h : BothAt w lb off cs p pb B FP FR C F) (c1 : Chg Noth w W1) (cP : Chg FP W1 W1') (hP : IsBag W1' pb B' FP')
    (fP : ∀ k, FP' k → FP k ∨ W1.heap.size ≤ k) (c2 : Chg Noth W1' W2) (cR : Chg (fun k => k = lb ∨ FR k) W2 W2') (hR : IsRef W2' lb (off + 1) ((cs.setIfInBounds (off + 1) gs).setIfInBounds (off + 1 + 1) (i64 B'.last)) 63 B' FR')
    (fR : ∀ k, FR' k → FR k ∨ W2.heap.size ≤ k) (hr : B'.room = B.room) (hl : B'.last ≤ B.last + 1) : StepRest w lb off cs p pb B FP FR C F W2' := by
  have hCF := h.book.core
  have s1 := c1.size
  have s2 := cP.size
  have s3 := c2.size
  have hlb : lb < w.heap.size := (Array.getElem?_eq_some_iff.1 h.ref.blk).1
  have n1 : ∀ x, FP' x → x < W1'.heap.size := fun x hx => hP.lt hx
  have n2 : ∀ x, FP x → x < w.heap.size := fun x hx => h.bag.lt hx
  have n3 : ∀ x, FR x → x < w.heap.size := fun x hx => h.ref.lt hx
  have n4 : ∀ x, F x → x < w.heap.size := fun x hx => h.book.lt x hx
  have hc : Chg (FX lb FP FR C) w W2' := ((c1.mono (G := FX lb FP FR C) fun _ _ e => e.elim).trans cP fun _ _ e => .inr (.inl e)).trans ((c2.mono (G := fun k => k = lb ∨ FR k) fun _ _ e => e.elim).trans cR fun _ _ e => e) fun _ _ e => by
    rcases e with e | e
    · exact .inl e
    · exact .inr (.inr (.inl e))
  have hF : ∀ x, F x → ¬ FP x ∧ ¬ FR x ∧ x ≠ lb := fun x hx => ⟨fun e => h.s2 x e hx, fun e => h.s3 x e hx, fun e => h.s4.2 (e ▸ hx)⟩
  refine ⟨⟨W2', hc⟩, _, B', FP', FR', C, F, rfl, ⟨?_, hR, ?_, ?_, ?_, fun x hx hy => ?_, fun x hx hy => ?_, fun x hx hy => ?_, fun hx => ?_, h.s4.2⟩, fun k hk => ?_, fun i hi => ?_, hr, hl⟩
  · refine (hP.grow c2).chg cR fun x hx e => ?_
    rcases fP x hx with e1 | e1
    · rcases e with e | e
      · exact h.s4.1 (e ▸ e1)
      · exact h.s1 x e1 e
    · rcases e with e | e
      · omega
      · have := n3 x e; omega
  · refine (((h.book.grow c1).chg cP fun x hx hf => (hF x hf).1 hx).grow c2).chg cR fun x hx hf => ?_
    rcases hx with hx | hx
    · exact (hF x hf).2.2 hx
    · exact (hF x hf).2.1 hx
  · rw [Array.getElem?_setIfInBounds_ne (by omega), Array.getElem?_setIfInBounds_ne (by omega)]; exact h.cp
  · rw [Array.getElem?_setIfInBounds_ne (by omega), Array.getElem?_setIfInBounds_ne (by omega)]; exact h.cb
  · have h1 := n1 x hx
    rcases fR x hy with e | e
    · rcases fP x hx with e1 | e1
      · exact h.s1 x e1 e
      · have := n3 x e; omega
    · omega
  · rcases fP x hx with e1 | e1
    · exact h.s2 x e1 hy
    · have := n4 x hy; omega
  · rcases fR x hx with e1 | e1
    · exact h.s3 x e1 hy
    · have := n4 x hy; omega
  · rcases fP _ hx with e1 | e1
    · exact h.s4.1 e1
    · omega
  · rcases hk with hk | hk | hk
    · rcases fP k hk with e | e
      · exact .inl (.inl e)
      · exact .inr (by omega)
    · rcases fR k hk with e | e
      · exact .inl (.inr (.inl e))
      · exact .inr (by omega)
    · exact .inl (.inr (.inr hk))
  · rw [Array.getElem?_setIfInBounds_ne (by omega), Array.getElem?_setIfInBounds_ne (by omega)]

theorem putS_rl (B : BagS) (fr to : Int) (l : List UInt8) : (putS B fr to l).1.room = B.room ∧ (putS B fr to l).1.last ≤ B.last + 1 := by
  refine ⟨?_, (putS_last B fr to l).2⟩
  unfold putS
  split <;> rfl
theorem sendS_rl (B : BagS) (fr to : Int) (l : List UInt8) : (sendS B fr to l).1.room = B.room ∧ (sendS B fr to l).1.last ≤ B.last + 1 := by
  unfold sendS
  split
  · exact ⟨rfl, by simp; omega⟩
  · exact putS_rl B fr to l
theorem doubleS_rl (B : BagS) (i : Int) : (doubleS B i).1.room = B.room ∧ (doubleS B i).1.last ≤ B.last + 1 := by
  unfold doubleS
  split
  · exact ⟨rfl, by simp; omega⟩
  · split
    · exact ⟨rfl, by simp; omega⟩
    · exact putS_rl B _ _ _
theorem moveS_rl (B : BagS) (i j : Int) : (moveS B i j).1.room = B.room ∧ (moveS B i j).1.last ≤ B.last + 1 := by
  unfold moveS
  split
  · exact ⟨rfl, by simp; omega⟩
  · split <;> exact ⟨rfl, by simp; omega⟩
theorem spoilS_rl (B : BagS) (i j k : Int) : (spoilS B i j k).1.room = B.room ∧ (spoilS B i j k).1.last ≤ B.last + 1 := by
  unfold spoilS
  split
  · exact ⟨rfl, by simp; omega⟩
  · split
    · exact ⟨rfl, by simp; omega⟩
    · split <;> exact ⟨rfl, by simp; omega⟩

theorem step_double (lb off : Nat) (cs : Array Value) (p pb : Nat) (B : BagS) (FP FR C F : Nat → Prop) (w : World) (h : BothAt w lb off cs p pb B FP FR C F) (who i j k : Int) (D : Option Addr) (n dc : Nat) (hlast : B.last < 1000000000000) :
    Calls Tryz.prog 21 #[.pointer (some ⟨lb, off, none⟩), (.agg #[i64 4, i64 who, i64 i, i64 j, i64 k, .slice D n dc])] w (StepTo w lb off cs p pb B FP FR C F) := by
  have hblk := h.ref.blk
  have hlb : lb < w.heap.size := (Array.getElem?_eq_some_iff.1 hblk).1
  have i1 : Old lb w := ⟨hlb⟩
  have c0 : w.cell? ⟨lb, off, none⟩ = some (.pointer (some ⟨pb, 0, none⟩)) := by rw [cell_of_row w lb off _ _ _ hblk]; exact h.cp
  have c4 : w.cell? ⟨lb, off + 4, none⟩ = some (.pointer (some ⟨p, 0, none⟩)) := by rw [cell_of_row w lb (off + 4) _ _ _ hblk]; exact h.cb
  have hbag := h.bag
  have href := h.ref
  have hbook := h.book
  have hCF := hbook.core
  have iP : Out lb FP := ⟨h.s4.1⟩
  have iR : Out lb FR := ⟨href.notlb⟩
  have hn2 : ∀ x, FP x → x < w.heap.size := fun x hx => hbag.lt hx
  have hn3 : ∀ x, FR x → x < w.heap.size := fun x hx => href.lt hx
  have hn4 : ∀ x, F x → x < w.heap.size := fun x hx => hbook.lt x hx
  have jP : Foot FP w := ⟨hn2⟩
  have jR : Foot (fun k => k = lb ∨ FR k) w := ⟨fun x hx => by
    rcases hx with hx | hx
    · omega
    · exact hn3 x hx⟩
  have hP := fun W hW => double_any pb B FP i W hW hlast
  have hR := fun W hW => doubleR_any lb (off + 1) cs 63 B FR i W hW hlast
  obtain ⟨hroom, hlast1⟩ := doubleS_rl B i
  obtain ⟨b0, hb0⟩ : ∃ b0, b0 = w.heap.size := ⟨_, rfl⟩
  go_enter Tryz.func21, Tryz.ntmps21
  go_wp2
  go_region_held_law (fun W' => W'.cell? ⟨lb, off, none⟩ = some (.pointer (some ⟨pb, 0, none⟩)) ∧ W'.cell? ⟨w.heap.size, 2, none⟩ = some (i64 i) ∧ W'.cell? ⟨w.heap.size, 3, none⟩ = some (i64 j) ∧ W'.cell? ⟨w.heap.size, 4, none⟩ = some (i64 k)) (refine ⟨?_, ?_, ?_, ?_⟩ <;> simp [go_sem, *]) (first | (go_at_call 88; refine (hP _ (hbag.grow (by repeat (with_reducible first | exact Chg.refl _ _ | refine chg_m ?_ _ | refine chg_g ?_ _ | refine chg_alloc ?_ _ | refine chg_drew ?_ | refine chg_drewN ?_ _ | refine chg_set ?_ _ _ _)))).mono ?_; rintro e w' ⟨rfl, m1, FP1, rfl, hB1, hf1⟩))
  have hrefM := ((href.grow (w' := w.alloc (.cells #[i64 4, i64 who, i64 i, i64 j, i64 k, .slice D n dc] 70)) (by repeat (with_reducible first | exact Chg.refl _ _ | refine chg_m ?_ _ | refine chg_g ?_ _ | refine chg_alloc ?_ _ | refine chg_drew ?_ | refine chg_drewN ?_ _ | refine chg_set ?_ _ _ _))).grow (chg_drew (Chg.refl _ _))).chg m1.h h.s4.1 fun x hx hx' => h.s1 x hx' hx
  have iO : Old lb m1.w := inferInstance
  have d0 : m1.w.cell? ⟨lb, off, none⟩ = some (.pointer (some ⟨pb, 0, none⟩)) := by simp [go_sem, c0]
  go_wp2
  go_region_held_law (fun W' => W'.cell? ⟨w.heap.size, 2, none⟩ = some (i64 i)) (simp [go_sem, *]) (first | (go_at_call 89; refine (hR _ (hrefM.grow (by repeat (with_reducible first | exact Chg.refl _ _ | refine chg_m ?_ _ | refine chg_g ?_ _ | refine chg_alloc ?_ _ | refine chg_drew ?_ | refine chg_drewN ?_ _ | refine chg_set ?_ _ _ _)))).mono ?_; rintro e w' ⟨rfl, m2, gs, FR1, rfl, hB2, hf2⟩))
  go_wp2
  exact bodyPost_ret (v := .bool true) (by simp [results, Tryz.results21, go_sem]) rfl ⟨rfl, (turn_end h (by repeat (with_reducible first | exact Chg.refl _ _ | refine chg_m ?_ _ | refine chg_g ?_ _ | refine chg_alloc ?_ _ | refine chg_drew ?_ | refine chg_drewN ?_ _ | refine chg_set ?_ _ _ _)) m1.h hB1 hf1 (by repeat (with_reducible first | exact Chg.refl _ _ | refine chg_m ?_ _ | refine chg_g ?_ _ | refine chg_alloc ?_ _ | refine chg_drew ?_ | refine chg_drewN ?_ _ | refine chg_set ?_ _ _ _)) m2.h hB2 hf2 hroom hlast1).grow (by repeat (with_reducible first | exact Chg.refl _ _ | refine chg_m ?_ _ | refine chg_g ?_ _ | refine chg_alloc ?_ _ | refine chg_drew ?_ | refine chg_drewN ?_ _ | refine chg_set ?_ _ _ _))⟩

theorem step_move (lb off : Nat) (cs : Array Value) (p pb : Nat) (B : BagS) (FP FR C F : Nat → Prop) (w : World) (h : BothAt w lb off cs p pb B FP FR C F) (who i j k : Int) (D : Option Addr) (n dc : Nat) :
    Calls Tryz.prog 21 #[.pointer (some ⟨lb, off, none⟩), (.agg #[i64 5, i64 who, i64 i, i64 j, i64 k, .slice D n dc])] w (StepTo w lb off cs p pb B FP FR C F) := by
  have hblk := h.ref.blk
  have hlb : lb < w.heap.size := (Array.getElem?_eq_some_iff.1 hblk).1
  have i1 : Old lb w := ⟨hlb⟩
  have c0 : w.cell? ⟨lb, off, none⟩ = some (.pointer (some ⟨pb, 0, none⟩)) := by rw [cell_of_row w lb off _ _ _ hblk]; exact h.cp
  have c4 : w.cell? ⟨lb, off + 4, none⟩ = some (.pointer (some ⟨p, 0, none⟩)) := by rw [cell_of_row w lb (off + 4) _ _ _ hblk]; exact h.cb
  have hbag := h.bag
  have href := h.ref
  have hbook := h.book
  have hCF := hbook.core
  have iP : Out lb FP := ⟨h.s4.1⟩
  have iR : Out lb FR := ⟨href.notlb⟩
  have hn2 : ∀ x, FP x → x < w.heap.size := fun x hx => hbag.lt hx
  have hn3 : ∀ x, FR x → x < w.heap.size := fun x hx => href.lt hx
  have hn4 : ∀ x, F x → x < w.heap.size := fun x hx => hbook.lt x hx
  have jP : Foot FP w := ⟨hn2⟩
  have jR : Foot (fun k => k = lb ∨ FR k) w := ⟨fun x hx => by
    rcases hx with hx | hx
    · omega
    · exact hn3 x hx⟩
  have hP := fun W hW => move_any pb B FP i j W hW
  have hR := fun W hW => moveR_any lb (off + 1) cs 63 B FR i j W hW
  obtain ⟨hroom, hlast1⟩ := moveS_rl B i j
  obtain ⟨b0, hb0⟩ : ∃ b0, b0 = w.heap.size := ⟨_, rfl⟩
  go_enter Tryz.func21, Tryz.ntmps21
  go_wp2
  go_region_held_law (fun W' => W'.cell? ⟨lb, off, none⟩ = some (.pointer (some ⟨pb, 0, none⟩)) ∧ W'.cell? ⟨w.heap.size, 2, none⟩ = some (i64 i) ∧ W'.cell? ⟨w.heap.size, 3, none⟩ = some (i64 j) ∧ W'.cell? ⟨w.heap.size, 4, none⟩ = some (i64 k)) (refine ⟨?_, ?_, ?_, ?_⟩ <;> simp [go_sem, *]) (first
    | (go_at_call 90; refine (hP _ (hbag.grow (by repeat (with_reducible first | exact Chg.refl _ _ | refine chg_m ?_ _ | refine chg_g ?_ _ | refine chg_alloc ?_ _ | refine chg_drew ?_ | refine chg_drewN ?_ _ | refine chg_set ?_ _ _ _)))).mono ?_; rintro e w' ⟨rfl, m1, FP1, rfl, hB1, hf1⟩; have hrefM := ((href.grow (w' := w.alloc (.cells #[i64 5, i64 who, i64 i, i64 j, i64 k, .slice D n dc] 70)) (by repeat (with_reducible first | exact Chg.refl _ _ | refine chg_m ?_ _ | refine chg_g ?_ _ | refine chg_alloc ?_ _ | refine chg_drew ?_ | refine chg_drewN ?_ _ | refine chg_set ?_ _ _ _))).grow (chg_drew (Chg.refl _ _))).chg m1.h h.s4.1 fun x hx hx' => h.s1 x hx' hx)
    | (go_at_call 91; refine (hR _ (hrefM.grow (by repeat (with_reducible first | exact Chg.refl _ _ | refine chg_m ?_ _ | refine chg_g ?_ _ | refine chg_alloc ?_ _ | refine chg_drew ?_ | refine chg_drewN ?_ _ | refine chg_set ?_ _ _ _)))).mono ?_; rintro e w' ⟨rfl, m2, gs, FR1, rfl, hB2, hf2⟩; have z0 : m2.w.cell? ⟨lb, off, none⟩ = some (.pointer (some ⟨pb, 0, none⟩)) := (by rw [cell_of_row _ _ off _ _ _ hB2.blk, Array.getElem?_setIfInBounds_ne (by omega), Array.getElem?_setIfInBounds_ne (by omega)]; exact h.cp)))
  go_wp2
  exact bodyPost_ret (v := .bool true) (by simp [results, Tryz.results21, go_sem]) rfl ⟨rfl, (turn_end h (by repeat (with_reducible first | exact Chg.refl _ _ | refine chg_m ?_ _ | refine chg_g ?_ _ | refine chg_alloc ?_ _ | refine chg_drew ?_ | refine chg_drewN ?_ _ | refine chg_set ?_ _ _ _)) m1.h hB1 hf1 (by repeat (with_reducible first | exact Chg.refl _ _ | refine chg_m ?_ _ | refine chg_g ?_ _ | refine chg_alloc ?_ _ | refine chg_drew ?_ | refine chg_drewN ?_ _ | refine chg_set ?_ _ _ _)) m2.h hB2 hf2 hroom hlast1).grow (by repeat (with_reducible first | exact Chg.refl _ _ | refine chg_m ?_ _ | refine chg_g ?_ _ | refine chg_alloc ?_ _ | refine chg_drew ?_ | refine chg_drewN ?_ _ | refine chg_set ?_ _ _ _))⟩

theorem step_spoil (lb off : Nat) (cs : Array Value) (p pb : Nat) (B : BagS) (FP FR C F : Nat → Prop) (w : World) (h : BothAt w lb off cs p pb B FP FR C F) (who i j k : Int) (D : Option Addr) (n dc : Nat) (hj : -9223372036854775808 ≤ j ∧ j ≤ 9223372036854775807) :
    Calls Tryz.prog 21 #[.pointer (some ⟨lb, off, none⟩), (.agg #[i64 6, i64 who, i64 i, i64 j, i64 k, .slice D n dc])] w (StepTo w lb off cs p pb B FP FR C F) := by
  have hblk := h.ref.blk
  have hlb : lb < w.heap.size := (Array.getElem?_eq_some_iff.1 hblk).1
  have i1 : Old lb w := ⟨hlb⟩
  have c0 : w.cell? ⟨lb, off, none⟩ = some (.pointer (some ⟨pb, 0, none⟩)) := by rw [cell_of_row w lb off _ _ _ hblk]; exact h.cp
  have c4 : w.cell? ⟨lb, off + 4, none⟩ = some (.pointer (some ⟨p, 0, none⟩)) := by rw [cell_of_row w lb (off + 4) _ _ _ hblk]; exact h.cb
  have hbag := h.bag
  have href := h.ref
  have hbook := h.book
  have hCF := hbook.core
  have iP : Out lb FP := ⟨h.s4.1⟩
  have iR : Out lb FR := ⟨href.notlb⟩
  have hn2 : ∀ x, FP x → x < w.heap.size := fun x hx => hbag.lt hx
  have hn3 : ∀ x, FR x → x < w.heap.size := fun x hx => href.lt hx
  have hn4 : ∀ x, F x → x < w.heap.size := fun x hx => hbook.lt x hx
  have jP : Foot FP w := ⟨hn2⟩
  have jR : Foot (fun k => k = lb ∨ FR k) w := ⟨fun x hx => by
    rcases hx with hx | hx
    · omega
    · exact hn3 x hx⟩
  have hP := fun W hW => spoil_any pb B FP i j k W hW hj
  have hR := fun W hW => spoilR_any lb (off + 1) cs 63 B FR i j k W hW hj
  obtain ⟨hroom, hlast1⟩ := spoilS_rl B i j k
  obtain ⟨b0, hb0⟩ : ∃ b0, b0 = w.heap.size := ⟨_, rfl⟩
  go_enter Tryz.func21, Tryz.ntmps21
  go_wp2
  go_region_held_law (fun W' => W'.cell? ⟨lb, off, none⟩ = some (.pointer (some ⟨pb, 0, none⟩)) ∧ W'.cell? ⟨w.heap.size, 2, none⟩ = some (i64 i) ∧ W'.cell? ⟨w.heap.size, 3, none⟩ = some (i64 j) ∧ W'.cell? ⟨w.heap.size, 4, none⟩ = some (i64 k)) (refine ⟨?_, ?_, ?_, ?_⟩ <;> simp [go_sem, *]) (first
    | (go_at_call 92; refine (hP _ (hbag.grow (by repeat (with_reducible first | exact Chg.refl _ _ | refine chg_m ?_ _ | refine chg_g ?_ _ | refine chg_alloc ?_ _ | refine chg_drew ?_ | refine chg_drewN ?_ _ | refine chg_set ?_ _ _ _)))).mono ?_; rintro e w' ⟨rfl, m1, FP1, rfl, hB1, hf1⟩; have hrefM := ((href.grow (w' := w.alloc (.cells #[i64 6, i64 who, i64 i, i64 j, i64 k, .slice D n dc] 70)) (by repeat (with_reducible first | exact Chg.refl _ _ | refine chg_m ?_ _ | refine chg_g ?_ _ | refine chg_alloc ?_ _ | refine chg_drew ?_ | refine chg_drewN ?_ _ | refine chg_set ?_ _ _ _))).grow (chg_drew (Chg.refl _ _))).chg m1.h h.s4.1 fun x hx hx' => h.s1 x hx' hx)
    | (go_at_call 93; refine (hR _ (hrefM.grow (by repeat (with_reducible first | exact Chg.refl _ _ | refine chg_m ?_ _ | refine chg_g ?_ _ | refine chg_alloc ?_ _ | refine chg_drew ?_ | refine chg_drewN ?_ _ | refine chg_set ?_ _ _ _)))).mono ?_; rintro e w' ⟨rfl, m2, gs, FR1, rfl, hB2, hf2⟩; have z0 : m2.w.cell? ⟨lb, off, none⟩ = some (.pointer (some ⟨pb, 0, none⟩)) := (by rw [cell_of_row _ _ off _ _ _ hB2.blk, Array.getElem?_setIfInBounds_ne (by omega), Array.getElem?_setIfInBounds_ne (by omega)]; exact h.cp)))
  go_wp2
  exact bodyPost_ret (v := .bool true) (by simp [results, Tryz.results21, go_sem]) rfl ⟨rfl, (turn_end h (by repeat (with_reducible first | exact Chg.refl _ _ | refine chg_m ?_ _ | refine chg_g ?_ _ | refine chg_alloc ?_ _ | refine chg_drew ?_ | refine chg_drewN ?_ _ | refine chg_set ?_ _ _ _)) m1.h hB1 hf1 (by repeat (with_reducible first | exact Chg.refl _ _ | refine chg_m ?_ _ | refine chg_g ?_ _ | refine chg_alloc ?_ _ | refine chg_drew ?_ | refine chg_drewN ?_ _ | refine chg_set ?_ _ _ _)) m2.h hB2 hf2 hroom hlast1).grow (by repeat (with_reducible first | exact Chg.refl _ _ | refine chg_m ?_ _ | refine chg_g ?_ _ | refine chg_alloc ?_ _ | refine chg_drew ?_ | refine chg_drewN ?_ _ | refine chg_set ?_ _ _ _))⟩
end Go.Proofs.YteemkceceaabkaaGreat
