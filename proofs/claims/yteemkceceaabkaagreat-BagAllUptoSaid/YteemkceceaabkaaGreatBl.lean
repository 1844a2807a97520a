/- A bag, the document's, and the book: looks. -/
import Derived.Test.YteemkceceaabkaaGreatBg
import Derived.Test.YteemkceceaabkaaGreatN2
import Derived.Test.YteemkceceaabkaaGreatP4
namespace Go.Proofs.YteemkceceaabkaaGreat
open Go.RowKit Go.Ear
set_option maxHeartbeats 1000000
set_option maxRecDepth 40000

/-- A Both at cell off of block lb. -/
structure BothAt (w : World) (lb off : Nat) (cs : Array Value) (p pb : Nat) (B : BagS) (FP FR C F : Nat → Prop) : Prop where
  bag : IsBag w pb B FP
  ref : IsRef w lb (off + 1) cs 63 B FR
  book : BookIs KT 53 w p C F
  cp : cs[off]? = some (.pointer (some ⟨pb, 0, none⟩))
  cb : cs[off + 4]? = some (.pointer (some ⟨p, 0, none⟩))
  s1 : ∀ x, FP x → ¬ FR x
  s2 : ∀ x, FP x → ¬ F x
  s3 : ∀ x, FR x → ¬ F x
  s4 : ¬ FP lb ∧ ¬ F lb

section
variable {w w' : World} {lb off : Nat} {cs : Array Value} {p pb : Nat} {B : BagS} {FP FR C F G : Nat → Prop}
theorem IsRef.blk (h : IsRef w lb off cs 63 B FR) : w.heap[lb]? = some (.cells cs 63 (0, 0)) := by
  obtain ⟨_, _, h, _⟩ := h
  exact h.blk
theorem IsRef.notlb (h : IsRef w lb off cs 63 B FR) : ¬ FR lb := by
  obtain ⟨_, _, h, hF⟩ := h
  exact fun e => h.ne_lb ((hF lb).1 e) rfl
theorem BothAt.chg (h : BothAt w lb off cs p pb B FP FR C F) (hc : Chg G w w') (hl : ¬ G lb) (h1 : ∀ x, FP x → ¬ G x) (h2 : ∀ x, FR x → ¬ G x) (h3 : ∀ x, F x → ¬ G x) : BothAt w' lb off cs p pb B FP FR C F :=
  ⟨h.bag.chg hc h1, h.ref.chg hc hl h2, h.book.chg hc fun x hx hf => h3 x hf hx, h.cp, h.cb, h.s1, h.s2, h.s3, h.s4⟩
theorem BothAt.grow (h : BothAt w lb off cs p pb B FP FR C F) (hc : Chg Noth w w') : BothAt w' lb off cs p pb B FP FR C F := h.chg hc (fun e => e) (fun _ _ e => e) (fun _ _ e => e) fun _ _ e => e
/-- The book has turned. -/
theorem BothAt.booked {C' F' : Nat → Prop} (h : BothAt w lb off cs p pb B FP FR C F) (hc : Chg C w w') (hb : BookIs KT 53 w' p C' F') (hF : ∀ x, F' x → F x ∨ w.heap.size ≤ x) : BothAt w' lb off cs p pb B FP FR C' F' := by
  have hCF := h.book.core
  have n1 : ∀ x, FP x → ¬ F' x := fun x hx hf => by
    rcases hF x hf with h1 | h1
    · exact h.s2 x hx h1
    · have := h.bag.lt hx; omega
  have n2 : ∀ x, FR x → ¬ F' x := fun x hx hf => by
    rcases hF x hf with h1 | h1
    · exact h.s3 x hx h1
    · have := h.ref.lt hx; omega
  refine ⟨h.bag.chg hc fun x hx hx' => h.s2 x hx (hCF x hx'), h.ref.chg hc (fun e => h.s4.2 (hCF _ e)) fun x hx hx' => h.s3 x hx (hCF x hx'), hb, h.cp, h.cb, h.s1, n1, n2, h.s4.1, fun hf => ?_⟩
  rcases hF lb hf with h1 | h1
  · exact h.s4.2 h1
  · have := (Array.getElem?_eq_some_iff.1 h.ref.blk).1; omega
end

/-- What a look leaves. -/
def LookTo (w : World) (lb off : Nat) (cs : Array Value) (p pb : Nat) (B : BagS) (FP FR C F : Nat → Prop) : Ending → World → Prop := fun e w' =>
  e = .returned (.bool true) ∧ ∃ (m : Muts C w) (C' F' : Nat → Prop), w' = m.w ∧ BothAt m.w lb off cs p pb B FP FR C' F' ∧ (∀ k, C' k → C k ∨ w.heap.size ≤ k) ∧ ∀ k, F' k → F k ∨ w.heap.size ≤ k

theorem looks_any (lb off : Nat) (cs : Array Value) (p pb : Nat) (B : BagS) (FP FR C F : Nat → Prop) (w : World) (h : BothAt w lb off cs p pb B FP FR C F) :
    Calls Tryz.prog 22 #[.pointer (some ⟨lb, off, none⟩)] w (LookTo w lb off cs p pb B FP FR C F) := by
  have hblk := h.ref.blk
  have i1 : Old lb w := ⟨(Array.getElem?_eq_some_iff.1 hblk).1⟩
  have c0 : w.cell? ⟨lb, off, none⟩ = some (.pointer (some ⟨pb, 0, none⟩)) := by rw [cell_of_row w lb off _ _ _ hblk]; exact h.cp
  have c4 : w.cell? ⟨lb, off + 4, none⟩ = some (.pointer (some ⟨p, 0, none⟩)) := by rw [cell_of_row w lb (off + 4) _ _ _ hblk]; exact h.cb
  obtain ⟨gs, us, hr, hFR⟩ := h.ref
  obtain ⟨c1, c2, c3, _, _⟩ := hr.cells
  obtain ⟨A2, d2, rfl⟩ := own_shape hr.own
  obtain ⟨n, hn⟩ : ∃ n, n = B.l.length := ⟨_, rfl⟩
  rw [← hn] at c1
  obtain ⟨b1, b2⟩ := hr.fits
  rw [← hn] at b1
  have hsm := hr.small
  have hGR : GL w 0 (.slice A2 n d2) us B.l := ⟨by rw [hn]; exact own_base hr.own (Nat.zero_le _), hr.len, fun i g v hg hv => own_base (hr.data i g v hg hv) (Nat.zero_le _)⟩
  have hall := all_any pb B FP w h.bag
  rw [← hn] at hall
  have hbook := h.book
  have hCF := hbook.core
  have hnl : ¬ C lb := fun e => h.s4.2 (hCF _ e)
  have HN := Lib.hid hn
  have HR := Lib.hid hFR
  clear hn hr hblk hFR
  go_enter Tryz.func22, Tryz.ntmps22
  go_wp2_with (first
    | (go_at_call 94; refine hall.mono ?_; rintro e w1 ⟨A, c, vs, rfl, ⟨g1, rfl⟩, hG, hap⟩; have hC1 := g1.h; have hgl := hG.own; have hb1 := hbook.grow hC1)
    | (go_at_call 95; refine (bookGram_any p C F w.heap.size A c vs B.l n HN.out g1.w hb1 hG hap (fun x hx hf => by have := (hG.gb_lt hx).1; have := hbook.lt x hf; omega) hsm (by omega)).mono ?_; rintro e w2 ⟨rfl, m, C', F', rfl, hB', hC', hF'⟩))
  have hsz := hC1.size
  have hCm : Chg C w m.w := (hC1.mono (G := C) fun _ _ e => e.elim).trans m.h fun _ _ e => e
  have hFm : ∀ x, F' x → F x ∨ w.heap.size ≤ x := fun x hx => by
    rcases hF' x hx with e | e | e
    · exact .inl e
    · exact .inr (hG.gb_lt e).1
    · exact .inr (by omega)
  have h2 := h.booked hCm hB' hFm
  have hGm : GL m.w w.heap.size (.slice A n c) vs B.l := hG.chg m.h fun x hx _ e => by have := hbook.lt x (hCF x e); omega
  have hGRm : GL m.w 0 (.slice A2 n d2) us B.l := hGR.chg hCm fun x _ hx e => h.s3 x ((HR.out x).2 (by rw [← HN.out]; exact hx)) (hCF x e)
  have iC : Out lb C := ⟨hnl⟩
  have i3 : Old lb m.w := ⟨Nat.lt_of_lt_of_le i1.lt hCm.size⟩
  have z0 : m.w.cell? ⟨lb, off, none⟩ = some (.pointer (some ⟨pb, 0, none⟩)) := (hCm.cell (p := ⟨lb, off, none⟩) i1.lt hnl).trans c0
  have z1 : m.w.cell? ⟨lb, off + 1, none⟩ = some (.slice A2 n d2) := (hCm.cell (p := ⟨lb, off + 1, none⟩) i1.lt hnl).trans c1
  have z3 : m.w.cell? ⟨lb, off + 1 + 2, none⟩ = some (i64 B.room) := (hCm.cell (p := ⟨lb, off + 1 + 2, none⟩) i1.lt hnl).trans c3
  have hsame := fun W (hW : Chg Noth m.w W) => sameBag_any A A2 c d2 vs us B.l n w.heap.size 0 HN.out W (hGm.grow hW) (hGRm.grow hW) hsm (by omega)
  have hlen := fun W (hW : Chg Noth m.w W) => len_any pb B FP W (h2.bag.grow hW)
  have hroom := fun W (hW : Chg Noth m.w W) => room_any pb B FP W (h2.bag.grow hW)
  rw [← HN.out] at hlen hroom
  have HC := Lib.hid (And.intro hCm (And.intro h2 (And.intro hC' hFm)))
  have hle : w.heap.size ≤ g1.w.heap.size := hsz
  generalize m.w = M at *
  clear hCm h2 hC' hFm hF' hB' hGm hGRm hG hb1 hgl hall c0 c1 c2 c3 c4
  refine wp_region_grows (by kernel_rfl) (by kernel_rfl) ?_
  repeat (go_big_quiet_step ((first | (go_at_call 96; exact grows_of (hsame _ (by repeat (with_reducible first | exact Chg.refl _ _ | refine chg_m ?_ _ | refine chg_g ?_ _ | refine chg_alloc ?_ _ | refine chg_drew ?_ | refine chg_drewN ?_ _ | refine chg_set ?_ _ _ _)))) | (go_at_call 97; exact grows_of (hlen _ (by repeat (with_reducible first | exact Chg.refl _ _ | refine chg_m ?_ _ | refine chg_g ?_ _ | refine chg_alloc ?_ _ | refine chg_drew ?_ | refine chg_drewN ?_ _ | refine chg_set ?_ _ _ _)))) | (go_at_call 79; exact grows_of (hroom _ (by repeat (with_reducible first | exact Chg.refl _ _ | refine chg_m ?_ _ | refine chg_g ?_ _ | refine chg_alloc ?_ _ | refine chg_drew ?_ | refine chg_drewN ?_ _ | refine chg_set ?_ _ _ _)))))))
  refine wpQuiet_nil ?_
  rintro _ ⟨g2, rfl⟩
  go_wp2
  obtain ⟨hCm, h2, hC', hFm⟩ := HC.out
  exact bodyPost_ret (v := .bool true) (by simp [results, Tryz.results22, go_sem]) rfl ⟨rfl, ⟨g2.w, hCm.trans g2.h fun _ _ e => e.elim⟩, C', F', rfl, h2.grow g2.h, fun x hx => by
    rcases hC' x hx with e | e
    · exact .inl e
    · exact .inr (by omega), hFm⟩
end Go.Proofs.YteemkceceaabkaaGreat
