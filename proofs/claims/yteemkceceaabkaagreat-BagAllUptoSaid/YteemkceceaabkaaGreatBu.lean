/- A step of a script: Take. -/
import Derived.Test.YteemkceceaabkaaGreatBt
namespace Go.Proofs.YteemkceceaabkaaGreat
open Go.RowKit Go.Ear
set_option maxHeartbeats 1000000
set_option maxRecDepth 100000

theorem step_take (lb off : Nat) (cs : Array Value) (p pb : Nat) (B : BagS) (FP FR C F : Nat → Prop) (w : World) (h : BothAt w lb off cs p pb B FP FR C F) (who i j k : Int) (D : Option Addr) (n dc : Nat) :
    Calls Tryz.prog 21 #[.pointer (some ⟨lb, off, none⟩), (.agg #[i64 3, i64 who, i64 i, i64 j, i64 k, .slice D n dc])] w (StepTo w lb off cs p pb B FP FR C F) := by
  have hblk := h.ref.blk
  have hlb : lb < w.heap.size := (Array.getElem?_eq_some_iff.1 hblk).1
  have i1 : Old lb w := ⟨hlb⟩
  have c0 : w.cell? ⟨lb, off, none⟩ = some (.pointer (some ⟨pb, 0, none⟩)) := by rw [cell_of_row w lb off _ _ _ hblk]; exact h.cp
  have c4 : w.cell? ⟨lb, off + 4, none⟩ = some (.pointer (some ⟨p, 0, none⟩)) := by rw [cell_of_row w lb (off + 4) _ _ _ hblk]; exact h.cb
  have hbag := h.bag
  have href := h.ref
  have hbook := h.book
  have hCF := hbook.core
  have iP : Out lb FP := ⟨h.s4.1⟩
  have iR : Out lb FR := ⟨href.notlb⟩
  have hn2 : ∀ x, FP x → x < w.heap.size := fun x hx => hbag.lt hx
  have hn3 : ∀ x, FR x → x < w.heap.size := fun x hx => href.lt hx
  have hn4 : ∀ x, F x → x < w.heap.size := fun x hx => hbook.lt x hx
  have jP : Foot FP w := ⟨hn2⟩
  have jR : Foot (fun k => k = lb ∨ FR k) w := ⟨fun x hx => by
    rcases hx with hx | hx
    · omega
    · exact hn3 x hx⟩
  have hP := fun W hW => takeP_any pb B FP i W hW
  have hR := fun W hW => takeRf_any lb (off + 1) cs 63 B FR i W hW
  obtain ⟨hrm, hla⟩ := takeS_rl B i
  have hsm : (atS B i).1.data.length ≤ 1024 := atS_small (by obtain ⟨_, _, hr, _⟩ := hbag; exact hr.small)
  generalize hx : atS B i = xa at hP hR hsm
  generalize hy : (takeS B i).1 = B' at hP hR hrm hla
  obtain ⟨⟨xi, xf, xt, xd⟩, xe⟩ := xa
  obtain ⟨xn, hxn⟩ : ∃ xn, xn = xd.length := ⟨_, rfl⟩
  simp only [Own1] at hP hR hsm
  rw [← hxn] at hP hR hsm
  clear hx hy
  have HX := Lib.hid hxn
  clear hxn
  go_enter Tryz.func21, Tryz.ntmps21
  go_wp2
  go_region_held_law (fun W' => W'.cell? ⟨lb, off, none⟩ = some (.pointer (some ⟨pb, 0, none⟩)) ∧ W'.cell? ⟨w.heap.size, 2, none⟩ = some (i64 i) ∧ W'.cell? ⟨w.heap.size, 3, none⟩ = some (i64 j) ∧ W'.cell? ⟨w.heap.size, 4, none⟩ = some (i64 k)) (refine ⟨?_, ?_, ?_, ?_⟩ <;> simp [go_sem, *]) (first | (go_at_call 86; refine (hP _ (hbag.grow (by repeat (with_reducible first | exact Chg.refl _ _ | refine chg_m ?_ _ | refine chg_g ?_ _ | refine chg_alloc ?_ _ | refine chg_drew ?_ | refine chg_drewN ?_ _ | refine chg_set ?_ _ _ _)))).mono ?_; rintro e w' ⟨A1, q1, rfl, ho1, m1, FP1, rfl, hB1, hf1, hA1⟩))
  all_goals (first
    | (have t1 : Muts FP (w.alloc (.cells #[i64 3, i64 who, i64 i, i64 j, i64 k, .slice D n dc] 70)).drew := m1
       clear t1
       have hW1l : w.heap.size < m1.w.heap.size := (by have := m1.h.size; simp at this; omega)
       generalize hW1 : m1.w.alloc (.cells #[i64 xi, i64 xf, i64 xt, .slice A1 xn q1] 110) = W1
       have hW1b : W1.heap[m1.w.heap.size]? = some (.cells #[i64 xi, i64 xf, i64 xt, .slice A1 xn q1] 110 (0, 0)) := (by rw [← hW1]; exact heap_alloc_new _ _)
       have hcg : Chg (fun x => x = m1.w.heap.size) m1.w W1 := (by rw [← hW1]; exact chg_alloc (Chg.refl _ _) _)
       have hgs : w.heap.size ≤ m1.w.heap.size := (by omega)
       have hW1c : Chg FP w W1 := (by rw [← hW1]; exact (by repeat (with_reducible first | exact Chg.refl _ _ | refine chg_m ?_ _ | refine chg_g ?_ _ | refine chg_alloc ?_ _ | refine chg_drew ?_ | refine chg_drewN ?_ _ | refine chg_set ?_ _ _ _)))
       have hW1o : W1.ownsRow 0 5 1 (.slice A1 xn q1) xn (bv xd) := own_chg ho1 hcg (fun x hx e => by have h1 := (ho1.lt x hx).2; have := hn2 x (hA1 x hx).1; omega)
       have z2 : W1.cell? ⟨w.heap.size, 2, none⟩ = some (i64 i) := (by rw [← hW1]; simp [go_sem])
       have hW1B : IsBag W1 pb B' FP1 := hB1.chg hcg fun x hx e => by have h1 := hB1.lt hx; have := hn2 x (hf1 x hx); omega
       generalize hgb : m1.w.heap.size = bx at hW1b ⊢
       rw [hgb] at hW1l
       clear ho1 hW1 hgb hcg hgs)
    | (generalize hW1 : (((m1.w.setCell ⟨w.heap.size + 1, 0, none⟩ (i64 xi)).setCell ⟨w.heap.size + 1, 1, none⟩ (i64 xf)).setCell ⟨w.heap.size + 1, 2, none⟩ (i64 xt)).setCell ⟨w.heap.size + 1, 3, none⟩ (.slice A1 xn q1) = W1
       have hW1b : W1.heap[w.heap.size + 1]? = some (.cells #[i64 xi, i64 xf, i64 xt, .slice A1 xn q1] 110 (0, 0)) := (by
         have e0 : m1.w.heap[w.heap.size + 1]? = some (.cells #[.int .i64 0, .int .i64 0, .int .i64 0, .slice none 0 0] 110 (0, 0)) := (by rw [m1.h.block _ (by simp <;> omega) (fun hx => by have := hn2 _ hx; omega)]; exact heap_alloc_hs _ _ _)
         rw [← hW1, heap_setCell_same _ _ 3 _ _ _ (heap_setCell_same _ _ 2 _ _ _ (heap_setCell_same _ _ 1 _ _ _ (heap_setCell_same _ _ 0 _ _ _ e0)))]
         rfl)
       have hgs : w.heap.size ≤ m1.w.heap.size := (by have := m1.h.size; simp at this; omega)
       have hcg : Chg (fun x => x = w.heap.size + 1) m1.w W1 := (by rw [← hW1]; have mm : May (w.heap.size + 1) (fun x => x = w.heap.size + 1) m1.w := ⟨.inl rfl⟩; exact (by repeat (with_reducible first | exact Chg.refl _ _ | refine chg_m ?_ _ | refine chg_g ?_ _ | refine chg_alloc ?_ _ | refine chg_drew ?_ | refine chg_drewN ?_ _ | refine chg_set ?_ _ _ _)))
       have hW1c : Chg FP w W1 := (by rw [← hW1]; exact (by repeat (with_reducible first | exact Chg.refl _ _ | refine chg_m ?_ _ | refine chg_g ?_ _ | refine chg_alloc ?_ _ | refine chg_drew ?_ | refine chg_drewN ?_ _ | refine chg_set ?_ _ _ _)))
       have hW1o : W1.ownsRow 0 5 1 (.slice A1 xn q1) xn (bv xd) := own_chg ho1 hcg (fun x hx e => by have h1 := (ho1.lt x hx).2; have := hn2 x (hA1 x hx).1; omega)
       have z2 : W1.cell? ⟨w.heap.size, 2, none⟩ = some (i64 i) := (by rw [← hW1]; simp [go_sem])
       have hW1B : IsBag W1 pb B' FP1 := hB1.chg hcg fun x hx e => by have h1 := hB1.lt hx; have := hn2 x (hf1 x hx); omega
       generalize hgb : w.heap.size + 1 = bx at hW1b ⊢
       have hW1l : w.heap.size < bx := (by omega)
       clear ho1 hW1 hgb hcg hgs))
  all_goals
    have hs1 := hW1c.size
    have j2 : Old w.heap.size W1 := ⟨by have := (Array.getElem?_eq_some_iff.1 hW1b).1; omega⟩
    have hrefM := href.chg hW1c h.s4.1 fun x hx hx' => h.s1 x hx' hx
    have iL : Out w.heap.size (fun k => k = lb ∨ FR k) := ⟨fun hx => by
      rcases hx with hx | hx
      · omega
      · have := hn3 _ hx; omega⟩
    have iWL : WLe w W1 := ⟨hs1⟩
    clear hB1
    go_wp2
    go_region_held_law (fun W' => W'.cell? ⟨w.heap.size, 2, none⟩ = some (i64 i)) (simp [go_sem, *]) (first | (go_at_call 87; refine (hR _ (hrefM.grow (by repeat (with_reducible first | exact Chg.refl _ _ | refine chg_m ?_ _ | refine chg_g ?_ _ | refine chg_alloc ?_ _ | refine chg_drew ?_ | refine chg_drewN ?_ _ | refine chg_set ?_ _ _ _)))).mono ?_; rintro e w' ⟨A2, q2, ⟨rfl, m2, gs, FR1, rfl, hB2, hf2⟩, ho2, hA2⟩))
  all_goals (first
    | (have t1 : Muts (fun k => k = lb ∨ FR k) (W1).drew := m2
       clear t1
       have hW2l : W1.heap.size ≤ m2.w.heap.size := (by have := m2.h.size; simp at this; omega)
       generalize hW2 : m2.w.alloc (.cells #[i64 xi, i64 xf, i64 xt, .slice A2 xn q2] 110) = W2
       have hW2b : W2.heap[m2.w.heap.size]? = some (.cells #[i64 xi, i64 xf, i64 xt, .slice A2 xn q2] 110 (0, 0)) := (by rw [← hW2]; exact heap_alloc_new _ _)
       have hcg : Chg (fun x => x = m2.w.heap.size) m2.w W2 := (by rw [← hW2]; exact chg_alloc (Chg.refl _ _) _)
       have hgs : W1.heap.size ≤ m2.w.heap.size := (by omega)
       have hW2c : Chg (fun k => k = lb ∨ FR k) W1 W2 := (by rw [← hW2]; exact (by repeat (with_reducible first | exact Chg.refl _ _ | refine chg_m ?_ _ | refine chg_g ?_ _ | refine chg_alloc ?_ _ | refine chg_drew ?_ | refine chg_drewN ?_ _ | refine chg_set ?_ _ _ _)))
       have hW2o : W2.ownsRow 0 5 1 (.slice A2 xn q2) xn (bv xd) := own_chg ho2 hcg (fun x hx e => by have h1 := (ho2.lt x hx).2; have := hn3 x (hA2 x hx); omega)
       have hW2R : IsRef W2 lb (off + 1) ((cs.setIfInBounds (off + 1) gs).setIfInBounds (off + 1 + 1) (i64 B'.last)) 63 B' FR1 := hB2.chg hcg (fun e => by omega) fun x hx e => (by have h0 := hB2.lt hx; rcases hf2 x hx with h1 | h1; (have := hn3 x h1; omega); (simp at h1; omega))
       have hf2 : ∀ k, FR1 k → FR k ∨ w.heap.size ≤ k := fun k hk => (by rcases hf2 k hk with h1 | h1; exact .inl h1; (simp at h1; exact .inr (by omega)))
       generalize hgb : m2.w.heap.size = by_ at hW2b ⊢
       rw [hgb] at hW2l
       clear ho2 hW2 hgb hcg hgs)
    | (generalize hW2 : (((m2.w.setCell ⟨W1.heap.size, 0, none⟩ (i64 xi)).setCell ⟨W1.heap.size, 1, none⟩ (i64 xf)).setCell ⟨W1.heap.size, 2, none⟩ (i64 xt)).setCell ⟨W1.heap.size, 3, none⟩ (.slice A2 xn q2) = W2
       have hW2b : W2.heap[W1.heap.size]? = some (.cells #[i64 xi, i64 xf, i64 xt, .slice A2 xn q2] 110 (0, 0)) := (by
         have e0 : m2.w.heap[W1.heap.size]? = some (.cells #[.int .i64 0, .int .i64 0, .int .i64 0, .slice none 0 0] 110 (0, 0)) := (by rw [m2.h.block _ (by simp <;> omega) (fun hx => by rcases hx with hx | hx; omega; have := hn3 _ hx; omega)]; exact heap_alloc_hs _ _ _)
         rw [← hW2, heap_setCell_same _ _ 3 _ _ _ (heap_setCell_same _ _ 2 _ _ _ (heap_setCell_same _ _ 1 _ _ _ (heap_setCell_same _ _ 0 _ _ _ e0)))]
         rfl)
       have hgs : W1.heap.size ≤ m2.w.heap.size := (by have := m2.h.size; simp at this; omega)
       have hcg : Chg (fun x => x = W1.heap.size) m2.w W2 := (by rw [← hW2]; have mm : May (W1.heap.size) (fun x => x = W1.heap.size) m2.w := ⟨.inl rfl⟩; exact (by repeat (with_reducible first | exact Chg.refl _ _ | refine chg_m ?_ _ | refine chg_g ?_ _ | refine chg_alloc ?_ _ | refine chg_drew ?_ | refine chg_drewN ?_ _ | refine chg_set ?_ _ _ _)))
       have hW2c : Chg (fun k => k = lb ∨ FR k) W1 W2 := (by rw [← hW2]; exact (by repeat (with_reducible first | exact Chg.refl _ _ | refine chg_m ?_ _ | refine chg_g ?_ _ | refine chg_alloc ?_ _ | refine chg_drew ?_ | refine chg_drewN ?_ _ | refine chg_set ?_ _ _ _)))
       have hW2o : W2.ownsRow 0 5 1 (.slice A2 xn q2) xn (bv xd) := own_chg ho2 hcg (fun x hx e => by have h1 := (ho2.lt x hx).2; have := hn3 x (hA2 x hx); omega)
       have hW2R : IsRef W2 lb (off + 1) ((cs.setIfInBounds (off + 1) gs).setIfInBounds (off + 1 + 1) (i64 B'.last)) 63 B' FR1 := hB2.chg hcg (fun e => by omega) fun x hx e => (by have h0 := hB2.lt hx; rcases hf2 x hx with h1 | h1; (have := hn3 x h1; omega); (simp at h1; omega))
       have hf2 : ∀ k, FR1 k → FR k ∨ w.heap.size ≤ k := fun k hk => (by rcases hf2 k hk with h1 | h1; exact .inl h1; (simp at h1; exact .inr (by omega)))
       generalize hgb : W1.heap.size = by_ at hW2b ⊢
       have hW2l : W1.heap.size ≤ by_ := (by omega)
       clear ho2 hW2 hgb hcg hgs))
  all_goals
    have hs2 := hW2c.size
    have hbxl : bx < W1.heap.size := (Array.getElem?_eq_some_iff.1 hW1b).1
    have hbyl : by_ < W2.heap.size := (Array.getElem?_eq_some_iff.1 hW2b).1
    have hW2x := (hW2c.block bx hbxl fun e => by
      rcases e with e | e
      · omega
      · have := hn3 bx e; omega).trans hW1b
    have hFa : ∀ x, F x → ¬ FP x ∧ ¬ FR x ∧ x ≠ lb := fun x hx => ⟨fun e => h.s2 x e hx, fun e => h.s3 x e hx, fun e => h.s4.2 (e ▸ hx)⟩
    have hFP : ∀ x, FP x → ¬ FR x ∧ ¬ F x ∧ x ≠ lb := fun x hx => ⟨h.s1 x hx, h.s2 x hx, fun e => h.s4.1 (e ▸ hx)⟩
    have ho1 := own_chg hW1o hW2c fun x hx e => by
      have h1 := hFP x (hA1 x hx).1
      rcases e with e | e
      · exact h1.2.2 e
      · exact h1.1 e
    have hbookM := (hbook.chg hW1c fun x hx hf => (hFa x hf).1 hx).chg hW2c fun x hx hf => by
      rcases hx with hx | hx
      · exact (hFa x hf).2.2 hx
      · exact (hFa x hf).2.1 hx
    have hW2B := hW1B.chg hW2c fun x hx e => by
      have h1 := hFP x (hf1 x hx)
      rcases e with e | e
      · exact h1.2.2 e
      · exact h1.1 e
    have jl : Old lb W2 := ⟨by omega⟩
    have jx : Old bx W2 := ⟨by omega⟩
    have iC : Out lb C := ⟨fun e => h.s4.2 (hCF _ e)⟩
    have iX : Out bx C := ⟨fun e => by have := hn4 _ (hCF _ e); omega⟩
    have iY : Out by_ C := ⟨fun e => by have := hn4 _ (hCF _ e); omega⟩
    have hcs4 : ((cs.setIfInBounds (off + 1) gs).setIfInBounds (off + 1 + 1) (i64 B'.last))[off + 4]? = some (.pointer (some ⟨p, 0, none⟩)) := by
      rw [Array.getElem?_setIfInBounds_ne (by omega), Array.getElem?_setIfInBounds_ne (by omega)]; exact h.cb
    have hcs0 : ((cs.setIfInBounds (off + 1) gs).setIfInBounds (off + 1 + 1) (i64 B'.last))[off]? = some (.pointer (some ⟨pb, 0, none⟩)) := by
      rw [Array.getElem?_setIfInBounds_ne (by omega), Array.getElem?_setIfInBounds_ne (by omega)]; exact h.cp
    have d4 : W2.cell? ⟨lb, off + 4, none⟩ = some (.pointer (some ⟨p, 0, none⟩)) := by rw [cell_of_row _ _ (off + 4) _ _ _ hW2R.blk]; exact hcs4
    have x3 : W2.cell? ⟨bx, 3, none⟩ = some (.slice A1 xn q1) := by rw [cell_of_row _ _ 3 _ _ _ hW2x]; rfl
    have hBy := fun W (hW : Chg Noth W2 W) => bookBytes_any p C F A1 xn q1 (bv xd) W (hbookM.grow hW) (own_chg ho1 hW fun _ _ e => e) ⟨xd, rfl⟩ (fun x hx hf => (hFa x hf).1 (hA1 x hx).1) (by omega)
    have HB := Lib.hid (And.intro hW2x (And.intro hW2b (And.intro ho1 hW2o)))
    have HR := Lib.hid (And.intro hW2R (And.intro hW2B (And.intro hcs0 hcs4)))
    have HF := Lib.hid (And.intro hf1 (And.intro hf2 (And.intro hA1 hA2)))
    clear hW1b hW1o hW2b hW2x hrefM hW2R hW2B hcs0 hcs4 hf1 hf2 hA1 hA2 hW1B
    go_wp2
    go_region_held_law (fun W' => W'.cell? ⟨lb, off + 4, none⟩ = some (.pointer (some ⟨p, 0, none⟩)) ∧ W'.cell? ⟨bx, 3, none⟩ = some (.slice A1 xn q1)) (refine ⟨?_, ?_⟩ <;> simp [go_sem, *]) (first | (go_at_call 84; refine (hBy _ (by repeat (with_reducible first | exact Chg.refl _ _ | refine chg_m ?_ _ | refine chg_g ?_ _ | refine chg_alloc ?_ _ | refine chg_drew ?_ | refine chg_drewN ?_ _ | refine chg_set ?_ _ _ _))).mono ?_; rintro e w' ⟨rfl, m3, C1, F1, rfl, hB3, hC3, hF3⟩))
    obtain ⟨bX, bY, o1, o2⟩ := HB.out
    obtain ⟨hf1, hf2, hA1, hA2⟩ := HF.out
    have hC23 : Chg C W2 m3.w := Chg.trans (b := W2.drew) ((chg_drew (Chg.refl Noth W2)).mono fun _ _ e => e.elim) m3.h fun _ _ e => e
    have hs3 := hC23.size
    have bX3 := (hC23.block bx (by omega) iX.out).trans bX
    have bY3 := (hC23.block by_ hbyl iY.out).trans bY
    have o13 := own_chg o1 hC23 fun x hx e => (hFa x (hCF x e)).1 (hA1 x hx).1
    have o23 := own_chg o2 hC23 fun x hx e => (hFa x (hCF x e)).2.1 (hA2 x hx)
    have HE := Lib.hid (And.intro hB3 (And.intro hC3 hF3))
    have u0 : m3.w.cell? ⟨bx, 0, none⟩ = some (i64 xi) := by rw [cell_of_row _ _ 0 _ _ _ bX3]; rfl
    have u1 : m3.w.cell? ⟨bx, 1, none⟩ = some (i64 xf) := by rw [cell_of_row _ _ 1 _ _ _ bX3]; rfl
    have u2 : m3.w.cell? ⟨bx, 2, none⟩ = some (i64 xt) := by rw [cell_of_row _ _ 2 _ _ _ bX3]; rfl
    have u3 : m3.w.cell? ⟨bx, 3, none⟩ = some (.slice A1 xn q1) := by rw [cell_of_row _ _ 3 _ _ _ bX3]; rfl
    have v0 : m3.w.cell? ⟨by_, 0, none⟩ = some (i64 xi) := by rw [cell_of_row _ _ 0 _ _ _ bY3]; rfl
    have v1 : m3.w.cell? ⟨by_, 1, none⟩ = some (i64 xf) := by rw [cell_of_row _ _ 1 _ _ _ bY3]; rfl
    have v2 : m3.w.cell? ⟨by_, 2, none⟩ = some (i64 xt) := by rw [cell_of_row _ _ 2 _ _ _ bY3]; rfl
    have v3 : m3.w.cell? ⟨by_, 3, none⟩ = some (.slice A2 xn q2) := by rw [cell_of_row _ _ 3 _ _ _ bY3]; rfl
    have hsame := fun W (hW : Chg Noth m3.w W) => sameGram_any xi xf xt A1 A2 q1 q2 xd xn HX.out W ((SL.of_own o13).grow hW) ((SL.of_own o23).grow hW) (by omega)
    clear hB3 hC3 hF3 bX3 bY3 o13 o23 bX bY d4 x3 hf1 hf2 hA1 hA2
    generalize m3.w = W3 at *
    go_wp2_with (go_at_call 85; refine (hsame _ (by repeat (with_reducible first | exact Chg.refl _ _ | refine chg_m ?_ _ | refine chg_g ?_ _ | refine chg_alloc ?_ _ | refine chg_drew ?_ | refine chg_drewN ?_ _ | refine chg_set ?_ _ _ _))).mono ?_; rintro e w' ⟨rfl, g4, rfl⟩)
    obtain ⟨hB3, hC3, hF3⟩ := HE.out
    obtain ⟨hf1, hf2, hA1, hA2⟩ := HF.out
    obtain ⟨hW2R, hW2B, hcs0, hcs4⟩ := HR.out
    have hF3' : ∀ x, F1 x → (F x ∨ (FP x ∧ ¬ FP1 x)) ∨ W2.heap.size ≤ x := fun x hx => by
      rcases hF3 x hx with e | e | e
      · exact .inl (.inl e)
      · exact .inl (.inr (hA1 x e))
      · exact .inr (by simpa using e)
    have hc4 : Chg (FX lb FP FR C) w g4.w := (((hW1c.mono (G := FX lb FP FR C) fun _ _ e => .inr (.inl e)).trans hW2c fun _ _ e => by
      rcases e with e | e
      · exact .inl e
      · exact .inr (.inr (.inl e))).trans hC23 fun _ _ e => .inr (.inr (.inr e))).trans g4.h fun _ _ e => e.elim
    have hR3 := hW2R.chg hC23 (fun e => (hFa _ (hCF _ e)).2.2 rfl) fun x hx e => by
      rcases hf2 x hx with h1 | h1
      · exact (hFa x (hCF x e)).2.1 h1
      · have := hn4 x (hCF x e); omega
    refine bodyPost_ret (v := .bool true) (by simp [results, Tryz.results21, go_sem]) rfl ⟨rfl, ⟨g4.w, hc4⟩, _, B', FP1, FR1, C1, F1, rfl, BothAt.grow (w := W3) ⟨hW2B.chg hC23 fun x hx e => (hFa x (hCF x e)).1 (hf1 x hx), hR3, hB3, hcs0, hcs4, fun x hx hy => ?_, fun x hx hy => ?_, fun x hx hy => ?_, fun hx => h.s4.1 (hf1 lb hx), fun hx => ?_⟩ g4.h, fun x hx => ?_, fun q hq => ?_, hrm, hla⟩
    · rcases hf2 x hy with e | e
      · exact (hFP x (hf1 x hx)).1 e
      · have := hn2 x (hf1 x hx); omega
    · rcases hF3' x hy with (e | e) | e
      · exact (hFa x e).1 (hf1 x hx)
      · exact e.2 hx
      · have := hn2 x (hf1 x hx); omega
    · have hl := hW2R.lt hx
      rcases hF3' x hy with (e | e) | e
      · rcases hf2 x hx with h1 | h1
        · exact (hFa x e).2.1 h1
        · have := hn4 x e; omega
      · rcases hf2 x hx with h1 | h1
        · exact (hFP x e.1).1 h1
        · have := hn2 x e.1; omega
      · omega
    · rcases hF3' lb hx with (e | e) | e
      · exact h.s4.2 e
      · exact h.s4.1 e.1
      · omega
    · rcases hx with hx | hx | hx
      · exact .inl (.inl (hf1 x hx))
      · rcases hf2 x hx with e | e
        · exact .inl (.inr (.inl e))
        · exact .inr e
      · rcases hF3' x hx with (e | e) | e
        · exact .inl (.inr (.inr e))
        · exact .inl (.inl e.1)
        · exact .inr (by omega)
    · rw [Array.getElem?_setIfInBounds_ne (by omega), Array.getElem?_setIfInBounds_ne (by omega)]
end Go.Proofs.YteemkceceaabkaaGreat
