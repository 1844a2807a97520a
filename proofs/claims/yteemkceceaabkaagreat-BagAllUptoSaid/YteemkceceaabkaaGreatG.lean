/- put, Send, Double as one. -/
import Derived.Test.YteemkceceaabkaaGreatF
namespace Go.Proofs.YteemkceceaabkaaGreat
open Go.RowKit Go.Ear
set_option maxHeartbeats 1000000
set_option maxRecDepth 20000

theorem BagTo.same {w w' : World} {p : Nat} {B : BagS} {F : Nat → Prop} {v : Value} {e : Ending} (h : Gr v w e w') (hB : IsBag w p B F) : BagTo w p B F v e w' := by
  obtain ⟨rfl, g, rfl⟩ := h
  exact ⟨rfl, ⟨g.w, g.h.mono (fun _ _ e => e.elim)⟩, F, rfl, hB.grow g.h, fun _ h => .inl h⟩
/-- A call behind a growth. -/
theorem BagTo.from {w w1 w' : World} {p : Nat} {B : BagS} {F : Nat → Prop} {v : Value} {e : Ending} (hg : Chg Noth w w1) (h : BagTo w1 p B F v e w') : BagTo w p B F v e w' := by
  obtain ⟨rfl, m, F', rfl, hB, hF⟩ := h
  exact ⟨rfl, ⟨m.w, (hg.mono (fun _ _ e => e.elim)).trans m.h (fun _ _ e => e)⟩, F', rfl, hB, fun k hk => (hF k hk).imp id (Nat.le_trans hg.size)⟩

/-- What put does. -/
def putS (B : BagS) (fr to : Int) (l : List UInt8) : BagS × Int × Int :=
  if (B.l.length : Int) = B.room then (B, 0, 90) else (⟨B.room, B.last + 1, B.l ++ [⟨B.last + 1, fr, to, l⟩]⟩, B.last + 1, 0)
def sendS (B : BagS) (fr to : Int) (l : List UInt8) : BagS × Int × Int := if 1024 < l.length then (B, 0, 2) else putS B fr to l
def doubleS (B : BagS) (i : Int) : BagS × Int × Int :=
  if i < 0 then (B, 0, 91) else match B.l[i.toNat]? with | none => (B, 0, 91) | some x => putS B x.fr x.to x.data

theorem put_full (p : Nat) (B : BagS) (F : Nat → Prop) (id fr to : Int) (v : Value) (w : World) (h : IsBag w p B F) (hroom : (B.l.length : Int) = B.room) :
    Calls Tryz.prog 123 #[.pointer (some ⟨p, 0, none⟩), gv id fr to v] w (Gr (.tuple #[i64 0, i64 90]) w) := by
  have hroomc := room_any p B F
  have hB := h
  obtain ⟨gs, vs, hr, hF⟩ := h
  have i1 : Old p w := ⟨hr.plt⟩
  have hne : ((B.room - B.l.length : Int) == 0) = true := by simp; omega
  go_enter Tryz.func123, Tryz.ntmps123
  go_wp2_with fail
  refine (hroomc _ (hB.grow (by repeat (with_reducible first | exact Chg.refl _ _ | refine chg_m ?_ _ | refine chg_g ?_ _ | refine chg_alloc ?_ _ | refine chg_drew ?_ | refine chg_drewN ?_ _ | refine chg_set ?_ _ _ _)))).mono ?_
  rintro e w' ⟨rfl, g1, rfl⟩
  go_wp2_with fail
  exact bodyPost_ret (v := .tuple #[i64 0, i64 90]) (by simp [results, Tryz.results123, go_sem]) rfl (gr_mk rfl (by
    repeat (with_reducible first | exact Chg.refl _ _ | refine chg_m ?_ _ | refine chg_g ?_ _ | refine chg_alloc ?_ _ | refine chg_drew ?_ | refine chg_drewN ?_ _ | refine chg_set ?_ _ _ _)))

theorem put_any (p : Nat) (B : BagS) (F : Nat → Prop) (id fr to : Int) (A : Option Addr) (n c : Nat) (l : List UInt8) (w : World) (h : IsBag w p B F)
    (hs : SL w (.slice A n c) l.length 1 (bv l)) (hp : 0 < l.length → ∀ k, (Value.slice A n c).ownBlock = some k → k ≠ p) (hl : l.length ≤ 1024) (hlast : B.last < 1000000000000) :
    Calls Tryz.prog 123 #[.pointer (some ⟨p, 0, none⟩), gv id fr to (.slice A n c)] w
      (BagTo w p (putS B fr to l).1 F (.tuple #[i64 (putS B fr to l).2.1, i64 (putS B fr to l).2.2])) := by
  by_cases hroom : (B.l.length : Int) = B.room
  · simp only [putS, if_pos hroom]
    exact (put_full p B F id fr to _ w h hroom).mono fun _ _ g => BagTo.same g h
  · simp only [putS, if_neg hroom]
    have : (B.l.length : Int) < B.room := by
      obtain ⟨gs, vs, hr, _⟩ := h
      have := hr.fits
      omega
    exact put_room p B F id fr to A n c l w h hs hp hl this hlast

theorem send_any (p : Nat) (B : BagS) (F : Nat → Prop) (fr to : Int) (A : Option Addr) (c : Nat) (l : List UInt8) (w : World) (h : IsBag w p B F)
    (hs : SL w (.slice A l.length c) l.length 1 (bv l)) (hp : 0 < l.length → ∀ k, (Value.slice A l.length c).ownBlock = some k → k ≠ p) (hl : l.length ≤ 1000000000000) (hlast : B.last < 1000000000000) :
    Calls Tryz.prog 77 #[.pointer (some ⟨p, 0, none⟩), i64 fr, i64 to, .slice A l.length c] w
      (BagTo w p (sendS B fr to l).1 F (.tuple #[i64 (sendS B fr to l).2.1, i64 (sendS B fr to l).2.2])) := by
  by_cases h1 : 1024 < l.length
  · simp only [sendS, if_pos h1]
    have h1' : decide ((1024 : Int) < (l.length : Int)) = true := by simp; omega
    go_enter Tryz.func77, Tryz.ntmps77
    go_wp2
    exact bodyPost_ret (v := .tuple #[i64 0, i64 2]) (by simp [results, Tryz.results77, go_sem]) rfl (BagTo.same (gr_same rfl) h)
  · simp only [sendS, if_neg h1]
    have h1' : decide ((1024 : Int) < (l.length : Int)) = false := by simp; omega
    have hput := put_any p B F 0 fr to A l.length c l
    generalize putS B fr to l = R at hput
    obtain ⟨B', x, y⟩ := R
    go_enter Tryz.func77, Tryz.ntmps77
    go_wp2_with fail
    refine (hput _ h hs hp (by omega) hlast).mono ?_
    rintro e w' ⟨rfl, m, F', rfl, hB', hF'⟩
    have HX : BagTo w p B' F (.tuple #[i64 x, i64 y]) (.returned (.tuple #[i64 x, i64 y])) m.w := ⟨rfl, m, F', rfl, hB', hF'⟩
    go_wp2_with fail
    exact bodyPost_ret (v := .tuple #[i64 x, i64 y]) (by simp [results, Tryz.results77, go_sem]) rfl HX

theorem double_any (p : Nat) (B : BagS) (F : Nat → Prop) (i : Int) (w : World) (hB : IsBag w p B F) (hlast : B.last < 1000000000000) :
    Calls Tryz.prog 88 #[.pointer (some ⟨p, 0, none⟩), i64 i] w (BagTo w p (doubleS B i).1 F (.tuple #[i64 (doubleS B i).2.1, i64 (doubleS B i).2.2])) := by
  rcases (show (i < 0 ∨ (B.l.length : Int) ≤ i) ∨ (0 ≤ i ∧ i < (B.l.length : Int)) from by omega) with h | ⟨h0, h1⟩
  · have ed : doubleS B i = (B, 0, 91) := by
      unfold doubleS
      split
      · rfl
      · rw [List.getElem?_eq_none (by omega)]
    rw [ed]
    have ha := asked_bad h
    go_enter Tryz.func88, Tryz.ntmps88
    go_wp2_with (go_at_call 124; refine (asked_one p B F _ _ i _ (hB.grow (by repeat (with_reducible first | exact Chg.refl _ _ | refine chg_m ?_ _ | refine chg_g ?_ _ | refine chg_alloc ?_ _ | refine chg_drew ?_ | refine chg_drewN ?_ _ | refine chg_set ?_ _ _ _))) (by simp [go_sem]) (Old.lt (b := w.heap.size))).mono ?_; rintro e w' ⟨rfl, g1, rfl⟩)
    exact bodyPost_ret (v := .tuple #[i64 0, i64 91]) (by simp [results, Tryz.results88, go_sem]) rfl (BagTo.same (gr_mk rfl (by
      repeat (with_reducible first | exact Chg.refl _ _ | refine chg_m ?_ _ | refine chg_g ?_ _ | refine chg_alloc ?_ _ | refine chg_drew ?_ | refine chg_drewN ?_ _ | refine chg_set ?_ _ _ _))) hB)
  · obtain ⟨i, rfl⟩ := Int.eq_ofNat_of_zero_le h0
    have hi : i < B.l.length := by omega
    obtain ⟨x, hx⟩ : ∃ x, B.l[i]? = some x := ⟨_, List.getElem?_eq_getElem hi⟩
    have ed : doubleS B (i : Int) = putS B x.fr x.to x.data := by simp [doubleS, hx]; omega
    rw [ed]
    have ha := asked_good (List.getElem?_eq_some_iff.1 hx).1
    have hB0 := hB
    obtain ⟨gs, vs, hr, hF⟩ := hB
    have hv : vs[i]? = some (vs[i]'(by rw [hr.len]; exact hi)) := List.getElem?_eq_getElem _
    generalize vs[i]'(by rw [hr.len]; exact hi) = v at hv
    have hd := hr.data i x v hx hv
    have hsm := hr.small x (List.mem_of_getElem? hx)
    obtain ⟨A, c, rfl⟩ := own_shape hd
    obtain ⟨c0, c1, c2, _⟩ := hr.cells
    have i1 : Old p w := ⟨hr.plt⟩
    have hown := hr.own
    have hnp := own_ne hd hr.blk (by decide)
    obtain ⟨g, cap, rfl, _, hg⟩ := hown.form (by omega)
    have i2 : Old g w := ⟨hg⟩
    obtain ⟨a0, a1, a2, a3⟩ := gram_cells hown hr.len hx hv
    have hput := put_any p B F x.id x.fr x.to A x.data.length c x.data
    generalize putS B x.fr x.to x.data = R at hput
    obtain ⟨B', y, z⟩ := R
    go_enter Tryz.func88, Tryz.ntmps88
    go_wp2_with (go_at_call 124; refine (asked_one p B F _ _ (i : Int) _ (hB0.grow (by repeat (with_reducible first | exact Chg.refl _ _ | refine chg_m ?_ _ | refine chg_g ?_ _ | refine chg_alloc ?_ _ | refine chg_drew ?_ | refine chg_drewN ?_ _ | refine chg_set ?_ _ _ _))) (by simp [go_sem]) (Old.lt (b := w.heap.size))).mono ?_; rintro e w' ⟨rfl, g1, rfl⟩)
    refine (hput _ (hB0.grow (by repeat (with_reducible first | exact Chg.refl _ _ | refine chg_m ?_ _ | refine chg_g ?_ _ | refine chg_alloc ?_ _ | refine chg_drew ?_ | refine chg_drewN ?_ _ | refine chg_set ?_ _ _ _))) ((SL.of_own hd).grow (by repeat (with_reducible first | exact Chg.refl _ _ | refine chg_m ?_ _ | refine chg_g ?_ _ | refine chg_alloc ?_ _ | refine chg_drew ?_ | refine chg_drewN ?_ _ | refine chg_set ?_ _ _ _))) (fun _ => hnp) hsm hlast).mono ?_
    rintro e w' ⟨rfl, m, F', rfl, hB', hF'⟩
    have HX : BagTo w p B' F (.tuple #[i64 y, i64 z]) (.returned (.tuple #[i64 y, i64 z])) m.w := BagTo.from (w1 := g1.w) (by repeat (with_reducible first | exact Chg.refl _ _ | refine chg_m ?_ _ | refine chg_g ?_ _ | refine chg_alloc ?_ _ | refine chg_drew ?_ | refine chg_drewN ?_ _ | refine chg_set ?_ _ _ _)) ⟨rfl, m, F', rfl, hB', hF'⟩
    clear hput hd hr hown hB'
    go_wp2_with fail
    exact bodyPost_ret (v := .tuple #[i64 y, i64 z]) (by simp [results, Tryz.results88, go_sem]) rfl HX
end Go.Proofs.YteemkceceaabkaaGreat
