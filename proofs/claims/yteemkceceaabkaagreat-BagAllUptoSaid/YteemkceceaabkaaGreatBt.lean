/- Steps of a script: At, Take, looks. -/
import Derived.Test.YteemkceceaabkaaGreatBs
namespace Go.Proofs.YteemkceceaabkaaGreat
open Go.RowKit Go.Ear
set_option maxHeartbeats 1000000
set_option maxRecDepth 100000

/-- The datagram at a place, and the answer. -/
def atS (B : BagS) (i : Int) : Gm × Int := if i < 0 ∨ (B.l.length : Int) ≤ i then (⟨0, 0, 0, []⟩, 91) else (B.l.getD i.toNat ⟨0, 0, 0, []⟩, 0)
theorem atS_bad {B : BagS} {i : Int} (h : i < 0 ∨ (B.l.length : Int) ≤ i) : atS B i = (⟨0, 0, 0, []⟩, 91) := if_pos h
theorem atS_good {B : BagS} {i : Nat} {x : Gm} (h : B.l[i]? = some x) : atS B i = (x, 0) := by
  have := (List.getElem?_eq_some_iff.1 h).1
  unfold atS
  rw [if_neg (by omega)]
  simp [List.getD, h]
theorem pick_at {B : BagS} {i : Int} (h : ¬ (i < 0 ∨ (B.l.length : Int) ≤ i)) : ∃ (k : Nat) (x : Gm), i = k ∧ B.l[k]? = some x := by
  obtain ⟨k, rfl⟩ := Int.eq_ofNat_of_zero_le (show 0 ≤ i by omega)
  exact ⟨k, _, rfl, List.getElem?_eq_getElem (by omega)⟩
theorem own1_nil (w : World) (base : Nat) : Own1 w base (.slice none ([] : List UInt8).length 0) [] := World.ownsRow_nil w base 5 1

theorem atP_any (p : Nat) (B : BagS) (F : Nat → Prop) (i : Int) (w : World) (hB : IsBag w p B F) :
    Calls Tryz.prog 78 #[.pointer (some ⟨p, 0, none⟩), i64 i] w fun e w' => ∃ A c, e = .returned (.tuple #[gv (atS B i).1.id (atS B i).1.fr (atS B i).1.to (.slice A (atS B i).1.data.length c), i64 (atS B i).2]) ∧ Own1 w' w.heap.size (.slice A (atS B i).1.data.length c) (atS B i).1.data ∧ ∃ g : Grows w, w' = g.w := by
  by_cases h : i < 0 ∨ (B.l.length : Int) ≤ i
  · rw [atS_bad h]
    refine (at_bad p B F i w hB h).mono ?_
    rintro e w' ⟨rfl, g⟩
    exact ⟨none, 0, rfl, own1_nil _ _, g⟩
  · obtain ⟨k, x, rfl, hx⟩ := pick_at h
    rw [atS_good hx]
    exact at_good p k B F w hB x hx
theorem atRf_any (lb off : Nat) (cs : Array Value) (t : TypeId) (B : BagS) (F : Nat → Prop) (i : Int) (w : World) (hB : IsRef w lb off cs t B F) :
    Calls Tryz.prog 83 #[.pointer (some ⟨lb, off, none⟩), i64 i] w fun e w' => ∃ A c, e = .returned (.tuple #[gv (atS B i).1.id (atS B i).1.fr (atS B i).1.to (.slice A (atS B i).1.data.length c), i64 (atS B i).2]) ∧ Own1 w' w.heap.size (.slice A (atS B i).1.data.length c) (atS B i).1.data ∧ ∃ g : Grows w, w' = g.w := by
  by_cases h : i < 0 ∨ (B.l.length : Int) ≤ i
  · rw [atS_bad h]
    refine (atR_bad lb off cs t B F i w hB h).mono ?_
    rintro e w' ⟨rfl, g⟩
    exact ⟨none, 0, rfl, own1_nil _ _, g⟩
  · obtain ⟨k, x, rfl, hx⟩ := pick_at h
    rw [atS_good hx]
    exact atR_good lb off cs t k B F w hB x hx
theorem takeP_any (p : Nat) (B : BagS) (F : Nat → Prop) (i : Int) (w : World) (hB : IsBag w p B F) :
    Calls Tryz.prog 86 #[.pointer (some ⟨p, 0, none⟩), i64 i] w fun e w' => ∃ A c, e = .returned (.tuple #[gv (atS B i).1.id (atS B i).1.fr (atS B i).1.to (.slice A (atS B i).1.data.length c), i64 (atS B i).2]) ∧ Own1 w' 0 (.slice A (atS B i).1.data.length c) (atS B i).1.data ∧
      ∃ (m : Muts F w) (F' : Nat → Prop), w' = m.w ∧ IsBag m.w p (takeS B i).1 F' ∧ (∀ k, F' k → F k) ∧ ∀ k, (Value.slice A (atS B i).1.data.length c).ownBlock = some k → F k ∧ ¬ F' k := by
  by_cases h : i < 0 ∨ (B.l.length : Int) ≤ i
  · rw [atS_bad h]
    simp only [takeS, if_pos h]
    refine (take_bad p B F i w hB h).mono ?_
    rintro e w' ⟨rfl, g, rfl⟩
    exact ⟨none, 0, rfl, own1_nil _ _, ⟨g.w, g.h.mono fun _ _ e => e.elim⟩, F, rfl, hB.grow g.h, fun _ h => h, fun k hk => by simp [Value.ownBlock] at hk⟩
  · simp only [takeS, if_neg h]
    obtain ⟨k, x, rfl, hx⟩ := pick_at h
    rw [atS_good hx]
    exact take_good p k B F w hB x hx
theorem takeRf_any (lb off : Nat) (cs : Array Value) (t : TypeId) (B : BagS) (F : Nat → Prop) (i : Int) (w : World) (hB : IsRef w lb off cs t B F) :
    Calls Tryz.prog 87 #[.pointer (some ⟨lb, off, none⟩), i64 i] w fun e w' => ∃ A c, RefTo w lb off cs t (takeS B i).1 F (.tuple #[gv (atS B i).1.id (atS B i).1.fr (atS B i).1.to (.slice A (atS B i).1.data.length c), i64 (atS B i).2]) e w' ∧ Own1 w' 0 (.slice A (atS B i).1.data.length c) (atS B i).1.data ∧
      ∀ k, (Value.slice A (atS B i).1.data.length c).ownBlock = some k → F k := by
  by_cases h : i < 0 ∨ (B.l.length : Int) ≤ i
  · rw [atS_bad h]
    simp only [takeS, if_pos h]
    refine (takeR_bad lb off cs t B F i w hB h).mono ?_
    rintro e w' hg
    exact ⟨none, 0, RefTo.same hg hB, own1_nil _ _, fun k hk => by simp [Value.ownBlock] at hk⟩
  · simp only [takeS, if_neg h]
    obtain ⟨k, x, rfl, hx⟩ := pick_at h
    rw [atS_good hx]
    exact takeR_good lb off cs t k B F w hB x hx
theorem takeS_rl (B : BagS) (i : Int) : (takeS B i).1.room = B.room ∧ (takeS B i).1.last ≤ B.last + 1 := by
  unfold takeS
  split <;> exact ⟨rfl, by simp; omega⟩
theorem atS_small {B : BagS} {i : Int} (h : ∀ g ∈ B.l, g.data.length ≤ 1024) : (atS B i).1.data.length ≤ 1024 := by
  by_cases hb : i < 0 ∨ (B.l.length : Int) ≤ i
  · rw [atS_bad hb]; simp
  · obtain ⟨k, x, rfl, hx⟩ := pick_at hb
    rw [atS_good hx]
    exact h x (List.mem_of_getElem? hx)
theorem LookTo.step {w w' : World} {lb off : Nat} {cs : Array Value} {p pb : Nat} {B : BagS} {FP FR C F : Nat → Prop} {e : Ending} (h : LookTo w lb off cs p pb B FP FR C F e w') : StepTo w lb off cs p pb B FP FR C F e w' := by
  obtain ⟨rfl, m, C', F', rfl, hb, _, hF⟩ := h
  exact ⟨rfl, ⟨m.w, m.h.mono fun _ _ e => .inr (.inr (.inr e))⟩, cs, B, FP, FR, C', F', rfl, hb, fun k hk => by
    rcases hk with hk | hk | hk
    · exact .inl (.inl hk)
    · exact .inl (.inr (.inl hk))
    · rcases hF k hk with e | e
      · exact .inl (.inr (.inr e))
      · exact .inr e, fun _ _ => rfl, rfl, by omega⟩
theorem StepTo.from {w W w' : World} {lb off : Nat} {cs : Array Value} {p pb : Nat} {B : BagS} {FP FR C F : Nat → Prop} {e : Ending} (hc : Chg Noth w W) (h : StepTo W lb off cs p pb B FP FR C F e w') : StepTo w lb off cs p pb B FP FR C F e w' := by
  obtain ⟨rfl, m, cs', B', FP', FR', C', F', rfl, hb, hF, hcs, hr, hl⟩ := h
  have := hc.size
  exact ⟨rfl, ⟨m.w, (hc.mono fun _ _ e => e.elim).trans m.h fun _ _ e => e⟩, cs', B', FP', FR', C', F', rfl, hb, fun k hk => by
    rcases hF k hk with e | e
    · exact .inl e
    · exact .inr (by omega), hcs, hr, hl⟩

theorem step_look (lb off : Nat) (cs : Array Value) (p pb : Nat) (B : BagS) (FP FR C F : Nat → Prop) (w : World) (h : BothAt w lb off cs p pb B FP FR C F) (kind who i j k : Int) (D : Option Addr) (n dc : Nat) (hk : kind < 1 ∨ 6 < kind) :
    Calls Tryz.prog 21 #[.pointer (some ⟨lb, off, none⟩), (.agg #[i64 kind, i64 who, i64 i, i64 j, i64 k, .slice D n dc])] w (StepTo w lb off cs p pb B FP FR C F) := by
  have hblk := h.ref.blk
  have hlb : lb < w.heap.size := (Array.getElem?_eq_some_iff.1 hblk).1
  have i1 : Old lb w := ⟨hlb⟩
  have c0 : w.cell? ⟨lb, off, none⟩ = some (.pointer (some ⟨pb, 0, none⟩)) := by rw [cell_of_row w lb off _ _ _ hblk]; exact h.cp
  have c4 : w.cell? ⟨lb, off + 4, none⟩ = some (.pointer (some ⟨p, 0, none⟩)) := by rw [cell_of_row w lb (off + 4) _ _ _ hblk]; exact h.cb
  have hbag := h.bag
  have href := h.ref
  have hbook := h.book
  have hCF := hbook.core
  have iP : Out lb FP := ⟨h.s4.1⟩
  have iR : Out lb FR := ⟨href.notlb⟩
  have hn2 : ∀ x, FP x → x < w.heap.size := fun x hx => hbag.lt hx
  have hn3 : ∀ x, FR x → x < w.heap.size := fun x hx => href.lt hx
  have hn4 : ∀ x, F x → x < w.heap.size := fun x hx => hbook.lt x hx
  have jP : Foot FP w := ⟨hn2⟩
  have jR : Foot (fun k => k = lb ∨ FR k) w := ⟨fun x hx => by
    rcases hx with hx | hx
    · omega
    · exact hn3 x hx⟩
  have n1 : decide (kind = 1) = false := by simp; omega
  have n2 : decide (kind = 2) = false := by simp; omega
  have n3 : decide (kind = 3) = false := by simp; omega
  have n4 : decide (kind = 4) = false := by simp; omega
  have n5 : decide (kind = 5) = false := by simp; omega
  have n6 : decide (kind = 6) = false := by simp; omega
  have hl := fun W hW => looks_any lb off cs p pb B FP FR C F W hW
  go_enter Tryz.func21, Tryz.ntmps21
  go_wp2_with (go_at_call 22; refine (hl _ (h.grow (by repeat (with_reducible first | exact Chg.refl _ _ | refine chg_m ?_ _ | refine chg_g ?_ _ | refine chg_alloc ?_ _ | refine chg_drew ?_ | refine chg_drewN ?_ _ | refine chg_set ?_ _ _ _)))).mono ?_; rintro e w' hL; obtain rfl := hL.1)
  exact bodyPost_ret (v := .bool true) (by simp [results, Tryz.results21, go_sem]) rfl (StepTo.from (by repeat (with_reducible first | exact Chg.refl _ _ | refine chg_m ?_ _ | refine chg_g ?_ _ | refine chg_alloc ?_ _ | refine chg_drew ?_ | refine chg_drewN ?_ _ | refine chg_set ?_ _ _ _)) hL.step)

theorem step_at (lb off : Nat) (cs : Array Value) (p pb : Nat) (B : BagS) (FP FR C F : Nat → Prop) (w : World) (h : BothAt w lb off cs p pb B FP FR C F) (who i j k : Int) (D : Option Addr) (n dc : Nat) :
    Calls Tryz.prog 21 #[.pointer (some ⟨lb, off, none⟩), (.agg #[i64 2, i64 who, i64 i, i64 j, i64 k, .slice D n dc])] w (StepTo w lb off cs p pb B FP FR C F) := by
  have hblk := h.ref.blk
  have hlb : lb < w.heap.size := (Array.getElem?_eq_some_iff.1 hblk).1
  have i1 : Old lb w := ⟨hlb⟩
  have c0 : w.cell? ⟨lb, off, none⟩ = some (.pointer (some ⟨pb, 0, none⟩)) := by rw [cell_of_row w lb off _ _ _ hblk]; exact h.cp
  have c4 : w.cell? ⟨lb, off + 4, none⟩ = some (.pointer (some ⟨p, 0, none⟩)) := by rw [cell_of_row w lb (off + 4) _ _ _ hblk]; exact h.cb
  have hbag := h.bag
  have href := h.ref
  have hbook := h.book
  have hCF := hbook.core
  have iP : Out lb FP := ⟨h.s4.1⟩
  have iR : Out lb FR := ⟨href.notlb⟩
  have hn2 : ∀ x, FP x → x < w.heap.size := fun x hx => hbag.lt hx
  have hn3 : ∀ x, FR x → x < w.heap.size := fun x hx => href.lt hx
  have hn4 : ∀ x, F x → x < w.heap.size := fun x hx => hbook.lt x hx
  have jP : Foot FP w := ⟨hn2⟩
  have jR : Foot (fun k => k = lb ∨ FR k) w := ⟨fun x hx => by
    rcases hx with hx | hx
    · omega
    · exact hn3 x hx⟩
  have hP := fun W hW => atP_any pb B FP i W hW
  have hR := fun W hW => atRf_any lb (off + 1) cs 63 B FR i W hW
  have hsm : (atS B i).1.data.length ≤ 1024 := atS_small (by obtain ⟨_, _, hr, _⟩ := hbag; exact hr.small)
  generalize hx : atS B i = xa at hP hR hsm
  obtain ⟨⟨xi, xf, xt, xd⟩, xe⟩ := xa
  obtain ⟨xn, hxn⟩ : ∃ xn, xn = xd.length := ⟨_, rfl⟩
  simp only [Own1] at hP hR hsm
  rw [← hxn] at hP hR hsm
  clear hx
  have HX := Lib.hid hxn
  clear hxn
  go_enter Tryz.func21, Tryz.ntmps21
  go_wp2
  go_region_held_law (fun W' => W'.cell? ⟨lb, off, none⟩ = some (.pointer (some ⟨pb, 0, none⟩)) ∧ W'.cell? ⟨w.heap.size, 2, none⟩ = some (i64 i) ∧ W'.cell? ⟨w.heap.size, 3, none⟩ = some (i64 j) ∧ W'.cell? ⟨w.heap.size, 4, none⟩ = some (i64 k)) (refine ⟨?_, ?_, ?_, ?_⟩ <;> simp [go_sem, *]) (first | (go_at_call 78; refine (hP _ (hbag.grow (by repeat (with_reducible first | exact Chg.refl _ _ | refine chg_m ?_ _ | refine chg_g ?_ _ | refine chg_alloc ?_ _ | refine chg_drew ?_ | refine chg_drewN ?_ _ | refine chg_set ?_ _ _ _)))).mono ?_; rintro e w' ⟨A1, q1, rfl, ho1, g1, rfl⟩))
  all_goals (first
    | (have t1 : Grows (w.alloc (.cells #[i64 2, i64 who, i64 i, i64 j, i64 k, .slice D n dc] 70)).drew := g1
       clear t1
       have hW1l : w.heap.size < g1.w.heap.size := (by have := g1.h.size; simp at this; omega)
       generalize hW1 : g1.w.alloc (.cells #[i64 xi, i64 xf, i64 xt, .slice A1 xn q1] 110) = W1
       have hW1b : W1.heap[g1.w.heap.size]? = some (.cells #[i64 xi, i64 xf, i64 xt, .slice A1 xn q1] 110 (0, 0)) := (by rw [← hW1]; exact heap_alloc_new _ _)
       have hW1c : Chg Noth w W1 := (by rw [← hW1]; exact (by repeat (with_reducible first | exact Chg.refl _ _ | refine chg_m ?_ _ | refine chg_g ?_ _ | refine chg_alloc ?_ _ | refine chg_drew ?_ | refine chg_drewN ?_ _ | refine chg_set ?_ _ _ _)))
       have hW1o : W1.ownsRow w.heap.size 5 1 (.slice A1 xn q1) xn (bv xd) := own_base (own_chg (F := Noth) ho1 (by rw [← hW1]; exact chg_alloc (Chg.refl _ _) _) fun _ _ e => e) (by simp <;> omega)
       have z2 : W1.cell? ⟨w.heap.size, 2, none⟩ = some (i64 i) := (by rw [← hW1]; simp [go_sem])
       generalize hgb : g1.w.heap.size = bx at hW1b ⊢
       rw [hgb] at hW1l
       clear ho1 hW1 hgb)
    | (have hW1l : w.heap.size < w.heap.size + 1 := (by have := g1.h.size; simp at this; omega)
       generalize hW1 : (((g1.w.setCell ⟨w.heap.size + 1, 0, none⟩ (i64 xi)).setCell ⟨w.heap.size + 1, 1, none⟩ (i64 xf)).setCell ⟨w.heap.size + 1, 2, none⟩ (i64 xt)).setCell ⟨w.heap.size + 1, 3, none⟩ (.slice A1 xn q1) = W1
       have hW1b : W1.heap[w.heap.size + 1]? = some (.cells #[i64 xi, i64 xf, i64 xt, .slice A1 xn q1] 110 (0, 0)) := (by
         have e0 : g1.w.heap[w.heap.size + 1]? = some (.cells #[.int .i64 0, .int .i64 0, .int .i64 0, .slice none 0 0] 110 (0, 0)) := (by rw [g1.h.block _ (by simp <;> omega) (fun e => e)]; exact heap_alloc_hs _ _ _)
         rw [← hW1, heap_setCell_same _ _ 3 _ _ _ (heap_setCell_same _ _ 2 _ _ _ (heap_setCell_same _ _ 1 _ _ _ (heap_setCell_same _ _ 0 _ _ _ e0)))]
         rfl)
       have hW1c : Chg Noth w W1 := (by rw [← hW1]; exact (by repeat (with_reducible first | exact Chg.refl _ _ | refine chg_m ?_ _ | refine chg_g ?_ _ | refine chg_alloc ?_ _ | refine chg_drew ?_ | refine chg_drewN ?_ _ | refine chg_set ?_ _ _ _)))
       have hW1o : W1.ownsRow w.heap.size 5 1 (.slice A1 xn q1) xn (bv xd) := own_base (own_chg (F := fun x => x = w.heap.size + 1) ho1 (by rw [← hW1]; have mm : May (w.heap.size + 1) (fun x => x = w.heap.size + 1) g1.w := ⟨.inl rfl⟩; exact (by repeat (with_reducible first | exact Chg.refl _ _ | refine chg_m ?_ _ | refine chg_g ?_ _ | refine chg_alloc ?_ _ | refine chg_drew ?_ | refine chg_drewN ?_ _ | refine chg_set ?_ _ _ _))) fun x hx e => by have := (ho1.lt x hx).1; simp at this; omega) (by simp <;> omega)
       have z2 : W1.cell? ⟨w.heap.size, 2, none⟩ = some (i64 i) := (by rw [← hW1]; simp [go_sem])
       generalize hgb : w.heap.size + 1 = bx at hW1b ⊢
       have hW1l : w.heap.size < bx := (by omega)
       clear ho1 hW1 hgb))

  all_goals
    have hs1 := hW1c.size
    have j2 : Old w.heap.size W1 := ⟨by have := (Array.getElem?_eq_some_iff.1 hW1b).1; omega⟩
    have hrefM := href.grow hW1c
    go_wp2
    go_region_held_law (fun W' => W'.cell? ⟨w.heap.size, 2, none⟩ = some (i64 i)) (simp [go_sem, *]) (first | (go_at_call 83; refine (hR _ (hrefM.grow (by repeat (with_reducible first | exact Chg.refl _ _ | refine chg_m ?_ _ | refine chg_g ?_ _ | refine chg_alloc ?_ _ | refine chg_drew ?_ | refine chg_drewN ?_ _ | refine chg_set ?_ _ _ _)))).mono ?_; rintro e w' ⟨A2, q2, rfl, ho2, g2, rfl⟩))
  all_goals (first
    | (have t1 : Grows (W1).drew := g2
       clear t1
       have hW2l : W1.heap.size ≤ g2.w.heap.size := (by have := g2.h.size; simp at this; omega)
       generalize hW2 : g2.w.alloc (.cells #[i64 xi, i64 xf, i64 xt, .slice A2 xn q2] 110) = W2
       have hW2b : W2.heap[g2.w.heap.size]? = some (.cells #[i64 xi, i64 xf, i64 xt, .slice A2 xn q2] 110 (0, 0)) := (by rw [← hW2]; exact heap_alloc_new _ _)
       have hW2c : Chg Noth W1 W2 := (by rw [← hW2]; exact (by repeat (with_reducible first | exact Chg.refl _ _ | refine chg_m ?_ _ | refine chg_g ?_ _ | refine chg_alloc ?_ _ | refine chg_drew ?_ | refine chg_drewN ?_ _ | refine chg_set ?_ _ _ _)))
       have hW2o : W2.ownsRow w.heap.size 5 1 (.slice A2 xn q2) xn (bv xd) := own_base (own_chg (F := Noth) ho2 (by rw [← hW2]; exact chg_alloc (Chg.refl _ _) _) fun _ _ e => e) (by simp <;> omega)
       generalize hgb : g2.w.heap.size = by_ at hW2b ⊢
       rw [hgb] at hW2l
       clear ho2 hW2 hgb)
    | (have hW2l : W1.heap.size ≤ W1.heap.size := (by have := g2.h.size; simp at this; omega)
       generalize hW2 : (((g2.w.setCell ⟨W1.heap.size, 0, none⟩ (i64 xi)).setCell ⟨W1.heap.size, 1, none⟩ (i64 xf)).setCell ⟨W1.heap.size, 2, none⟩ (i64 xt)).setCell ⟨W1.heap.size, 3, none⟩ (.slice A2 xn q2) = W2
       have hW2b : W2.heap[W1.heap.size]? = some (.cells #[i64 xi, i64 xf, i64 xt, .slice A2 xn q2] 110 (0, 0)) := (by
         have e0 : g2.w.heap[W1.heap.size]? = some (.cells #[.int .i64 0, .int .i64 0, .int .i64 0, .slice none 0 0] 110 (0, 0)) := (by rw [g2.h.block _ (by simp <;> omega) (fun e => e)]; exact heap_alloc_hs _ _ _)
         rw [← hW2, heap_setCell_same _ _ 3 _ _ _ (heap_setCell_same _ _ 2 _ _ _ (heap_setCell_same _ _ 1 _ _ _ (heap_setCell_same _ _ 0 _ _ _ e0)))]
         rfl)
       have hW2c : Chg Noth W1 W2 := (by rw [← hW2]; exact (by repeat (with_reducible first | exact Chg.refl _ _ | refine chg_m ?_ _ | refine chg_g ?_ _ | refine chg_alloc ?_ _ | refine chg_drew ?_ | refine chg_drewN ?_ _ | refine chg_set ?_ _ _ _)))
       have hW2o : W2.ownsRow w.heap.size 5 1 (.slice A2 xn q2) xn (bv xd) := own_base (own_chg (F := fun x => x = W1.heap.size) ho2 (by rw [← hW2]; have mm : May (W1.heap.size) (fun x => x = W1.heap.size) g2.w := ⟨.inl rfl⟩; exact (by repeat (with_reducible first | exact Chg.refl _ _ | refine chg_m ?_ _ | refine chg_g ?_ _ | refine chg_alloc ?_ _ | refine chg_drew ?_ | refine chg_drewN ?_ _ | refine chg_set ?_ _ _ _))) fun x hx e => by have := (ho2.lt x hx).1; simp at this; omega) (by simp <;> omega)
       generalize hgb : W1.heap.size = by_ at hW2b ⊢
       have hW2l : W1.heap.size ≤ by_ := (by omega)
       clear ho2 hW2 hgb))
  all_goals
    have hs2 := hW2c.size
    have hbxl : bx < W1.heap.size := (Array.getElem?_eq_some_iff.1 hW1b).1
    have hbyl : by_ < W2.heap.size := (Array.getElem?_eq_some_iff.1 hW2b).1
    have hW2x := (hW2c.block bx hbxl fun e => e).trans hW1b
    have hc02 := hW1c.trans hW2c fun _ _ e => e
    have ho1 := own_chg hW1o hW2c fun _ _ e => e
    have hbookM := hbook.grow hc02
    have jl : Old lb W2 := ⟨by omega⟩
    have jx : Old bx W2 := ⟨by omega⟩
    have iC : Out lb C := ⟨fun e => h.s4.2 (hCF _ e)⟩
    have iX : Out bx C := ⟨fun e => by have := hn4 _ (hCF _ e); omega⟩
    have iY : Out by_ C := ⟨fun e => by have := hn4 _ (hCF _ e); omega⟩
    have d4 : W2.cell? ⟨lb, off + 4, none⟩ = some (.pointer (some ⟨p, 0, none⟩)) := (hc02.cell (p := ⟨lb, off + 4, none⟩) hlb fun e => e).trans c4
    have x3 : W2.cell? ⟨bx, 3, none⟩ = some (.slice A1 xn q1) := by rw [cell_of_row _ _ 3 _ _ _ hW2x]; rfl
    have hBy := fun W (hW : Chg Noth W2 W) => bookBytes_any p C F A1 xn q1 (bv xd) W (hbookM.grow hW) (own_base (own_chg ho1 hW fun _ _ e => e) (Nat.zero_le _)) ⟨xd, rfl⟩ (fun x hx hf => by have := (ho1.lt x hx).1; have := hn4 x hf; omega) (by omega)
    have HB := Lib.hid (And.intro hW2x (And.intro hW2b (And.intro ho1 hW2o)))
    clear hW1b hW1o hW2b hW2x hrefM
    go_wp2
    go_region_held_law (fun W' => W'.cell? ⟨lb, off + 4, none⟩ = some (.pointer (some ⟨p, 0, none⟩)) ∧ W'.cell? ⟨bx, 3, none⟩ = some (.slice A1 xn q1)) (refine ⟨?_, ?_⟩ <;> simp [go_sem, *]) (first | (go_at_call 84; refine (hBy _ (by repeat (with_reducible first | exact Chg.refl _ _ | refine chg_m ?_ _ | refine chg_g ?_ _ | refine chg_alloc ?_ _ | refine chg_drew ?_ | refine chg_drewN ?_ _ | refine chg_set ?_ _ _ _))).mono ?_; rintro e w' ⟨rfl, m3, C1, F1, rfl, hB3, hC3, hF3⟩))
    obtain ⟨bX, bY, o1, o2⟩ := HB.out
    have hC23 : Chg C W2 m3.w := Chg.trans (b := W2.drew) ((chg_drew (Chg.refl Noth W2)).mono fun _ _ e => e.elim) m3.h fun _ _ e => e
    have hs3 := hC23.size
    have bX3 := (hC23.block bx (by omega) iX.out).trans bX
    have bY3 := (hC23.block by_ hbyl iY.out).trans bY
    have o13 := own_chg o1 hC23 fun x hx e => by have := (o1.lt x hx).1; have := hn4 x (hCF x e); omega
    have o23 := own_chg o2 hC23 fun x hx e => by have := (o2.lt x hx).1; have := hn4 x (hCF x e); omega
    have HE := Lib.hid (And.intro hB3 (And.intro hC3 hF3))
    have u0 : m3.w.cell? ⟨bx, 0, none⟩ = some (i64 xi) := by rw [cell_of_row _ _ 0 _ _ _ bX3]; rfl
    have u1 : m3.w.cell? ⟨bx, 1, none⟩ = some (i64 xf) := by rw [cell_of_row _ _ 1 _ _ _ bX3]; rfl
    have u2 : m3.w.cell? ⟨bx, 2, none⟩ = some (i64 xt) := by rw [cell_of_row _ _ 2 _ _ _ bX3]; rfl
    have u3 : m3.w.cell? ⟨bx, 3, none⟩ = some (.slice A1 xn q1) := by rw [cell_of_row _ _ 3 _ _ _ bX3]; rfl
    have v0 : m3.w.cell? ⟨by_, 0, none⟩ = some (i64 xi) := by rw [cell_of_row _ _ 0 _ _ _ bY3]; rfl
    have v1 : m3.w.cell? ⟨by_, 1, none⟩ = some (i64 xf) := by rw [cell_of_row _ _ 1 _ _ _ bY3]; rfl
    have v2 : m3.w.cell? ⟨by_, 2, none⟩ = some (i64 xt) := by rw [cell_of_row _ _ 2 _ _ _ bY3]; rfl
    have v3 : m3.w.cell? ⟨by_, 3, none⟩ = some (.slice A2 xn q2) := by rw [cell_of_row _ _ 3 _ _ _ bY3]; rfl
    have hsame := fun W (hW : Chg Noth m3.w W) => sameGram_any xi xf xt A1 A2 q1 q2 xd xn HX.out W ((SL.of_own o13).grow hW) ((SL.of_own o23).grow hW) (by omega)
    clear hB3 hC3 hF3 bX3 bY3 o13 o23 bX bY d4 x3
    generalize m3.w = W3 at *
    go_wp2_with (go_at_call 85; refine (hsame _ (by repeat (with_reducible first | exact Chg.refl _ _ | refine chg_m ?_ _ | refine chg_g ?_ _ | refine chg_alloc ?_ _ | refine chg_drew ?_ | refine chg_drewN ?_ _ | refine chg_set ?_ _ _ _))).mono ?_; rintro e w' ⟨rfl, g4, rfl⟩)
    obtain ⟨hB3, hC3, hF3⟩ := HE.out
    have hCw : Chg C w W3 := (hc02.mono fun _ _ e => e.elim).trans hC23 fun _ _ e => e
    have hFm : ∀ x, F1 x → F x ∨ w.heap.size ≤ x := fun x hx => by
      rcases hF3 x hx with e | e | e
      · exact .inl e
      · exact .inr (o1.lt x e).1
      · exact .inr (by simp at e; omega)
    exact bodyPost_ret (v := .bool true) (by simp [results, Tryz.results21, go_sem]) rfl (LookTo.step ⟨rfl, ⟨g4.w, hCw.trans g4.h fun _ _ e => e.elim⟩, C1, F1, rfl, (h.booked hCw hB3 hFm).grow g4.h, fun x hx => by
      rcases hC3 x hx with e | e
      · exact .inl e
      · exact .inr (by simp at e; omega), hFm⟩)

end Go.Proofs.YteemkceceaabkaaGreat
