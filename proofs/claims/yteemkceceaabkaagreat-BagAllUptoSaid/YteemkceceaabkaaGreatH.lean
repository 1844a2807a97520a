/- Spoil. -/
import Derived.Test.YteemkceceaabkaaGreatG
namespace Go.Proofs.YteemkceceaabkaaGreat
open Go.RowKit Go.Ear
set_option maxHeartbeats 1000000
set_option maxRecDepth 20000

/-- What Spoil does. -/
def spoilS (B : BagS) (i at' by' : Int) : BagS × Int :=
  if i < 0 then (B, 91) else match B.l[i.toNat]? with
  | none => (B, 91)
  | some x => if by' < 1 ∨ 255 < by' ∨ x.data.length = 0 then (B, 1) else
    let j := (at' % x.data.length).toNat
    ({ B with l := B.l.set i.toNat { x with data := x.data.set j ((x.data.getD j 0) ^^^ UInt8.ofNat by'.toNat) } }, 0)

theorem spoil_bad (p : Nat) (B : BagS) (F : Nat → Prop) (i a b : Int) (w : World) (hB : IsBag w p B F) (h : i < 0 ∨ (B.l.length : Int) ≤ i) :
    Calls Tryz.prog 92 #[.pointer (some ⟨p, 0, none⟩), i64 i, i64 a, i64 b] w (Gr (i64 91) w) := by
  have ha := asked_bad h
  go_enter Tryz.func92, Tryz.ntmps92
  go_wp2_with (go_at_call 124; refine (asked_one p B F _ _ i _ (hB.grow (by repeat (with_reducible first | exact Chg.refl _ _ | refine chg_m ?_ _ | refine chg_g ?_ _ | refine chg_alloc ?_ _ | refine chg_drew ?_ | refine chg_drewN ?_ _ | refine chg_set ?_ _ _ _))) (by simp [go_sem]) (Old.lt (b := w.heap.size))).mono ?_; rintro e w' ⟨rfl, g1, rfl⟩)
  go_ret
  exact gr_mk rfl (by
    repeat (with_reducible first | exact Chg.refl _ _ | refine chg_m ?_ _ | refine chg_g ?_ _ | refine chg_alloc ?_ _ | refine chg_drew ?_ | refine chg_drewN ?_ _ | refine chg_set ?_ _ _ _))

theorem xor_byte (a : UInt8) (b : Int) (h0 : 0 ≤ b) (h1 : b ≤ 255) : bits .xor .u8 (a.toNat : Int) b = ((a ^^^ UInt8.ofNat b.toNat).toNat : Int) := by
  obtain ⟨n, rfl⟩ := Int.eq_ofNat_of_zero_le h0
  show IntKind.u8.wrap (((BitVec.ofInt 8 (a.toNat : Int) ^^^ BitVec.ofInt 8 (n : Int) : BitVec 8).toNat : Nat) : Int) = _
  rw [Int.toNat_natCast]
  have e1 : BitVec.ofInt 8 (a.toNat : Int) = a.toBitVec := by
    apply BitVec.eq_of_toNat_eq
    have := a.toNat_lt
    simp
  have e2 : BitVec.ofInt 8 (n : Int) = (UInt8.ofNat n).toBitVec := by
    apply BitVec.eq_of_toNat_eq
    simp
  rw [e1, e2]
  have e3 : (a.toBitVec ^^^ (UInt8.ofNat n).toBitVec).toNat = (a ^^^ UInt8.ofNat n).toNat := rfl
  rw [e3]
  have := (a ^^^ UInt8.ofNat n).toNat_lt
  generalize (a ^^^ UInt8.ofNat n).toNat = m at *
  rw [IntKind.wrap_u8]
  omega

theorem own_set {w : World} {base : Nat} {e : TypeId} {n g cap j : Nat} {xs : List Value} {u : Value} (h : w.ownsRow base e 1 (.slice (some ⟨g, 0, none⟩) n cap) n xs) (_ : j < n) :
    (w.setCell ⟨g, j, none⟩ u).ownsRow base e 1 (.slice (some ⟨g, 0, none⟩) n cap) n (xs.set j u) := by
  obtain ⟨hl, h2⟩ := h
  rcases h2 with ⟨h', _⟩ | ⟨g', cap', cur, h', hb, hg, hnc, hcm, hcs, htake⟩
  · simp at h'
  · simp only [Value.slice.injEq, Option.some.injEq, Addr.mk.injEq, and_true, true_and] at h'
    obtain ⟨rfl, rfl⟩ := h'
    refine ⟨by simp [hl], .inr ⟨g, cap, _, rfl, hb, heap_setCell_same _ g j _ _ u hg, hnc, hcm, by simp [hcs], ?_⟩⟩
    rw [Array.toList_setIfInBounds, List.take_set, htake]

theorem flat_set_same (l : List Gm) (vs : List Value) (i : Nat) (x y : Gm) (hx : l[i]? = some x) (h1 : y.id = x.id) (h2 : y.fr = x.fr) (h3 : y.to = x.to) : flat (l.set i y) vs = flat l vs := by
  unfold flat
  induction l generalizing vs i with
  | nil => simp
  | cons z l ih =>
    cases vs with
    | nil => cases i <;> simp
    | cons v vs =>
      cases i with
      | zero => simp at hx; subst hx; simp [hcells, h1, h2, h3]
      | succ i => simp only [List.set_cons_succ, List.zip_cons_cons, List.flatMap_cons]; rw [ih vs i (by simpa using hx)]

/-- A bag of which one byte has been turned. -/
theorem spoil_end {w W : World} {p i j dg dcap : Nat} {B : BagS} {F : Nat → Prop} {gs r : Value} {vs : List Value} {x : Gm} (b : UInt8) (hr : BagRep w p B gs vs) (hF : ∀ k, F k ↔ foot p gs vs k) (hC : Chg Noth w W) (hx : B.l[i]? = some x)
    (hv : vs[i]? = some (.slice (some ⟨dg, 0, none⟩) x.data.length dcap)) (hj : j < x.data.length) :
    BagTo w p { B with l := B.l.set i { x with data := x.data.set j b } } F r (.returned r) (W.setCell ⟨dg, j, none⟩ (.int .u8 (b.toNat : Int))) := by
  have hd := hr.data i x _ hx hv
  have hnp := own_ne hd hr.blk (by decide) dg rfl
  have hng : ∀ k, gs.ownBlock = some k → k ≠ dg := fun k hk e => by subst e; exact own_own hr.own hd (by decide) k hk rfl
  have hfd : F dg := (hF dg).2 (.inr (.inr ⟨_, List.mem_of_getElem? hv, rfl⟩))
  have hrW : BagRep W p B gs vs := hr.chg hC (fun _ _ e => e)
  have i9 : May dg (fun k => k = dg) W := ⟨.inl rfl⟩
  have hcs : Chg (fun k => k = dg) W (W.setCell ⟨dg, j, none⟩ (.int .u8 (b.toNat : Int))) := chg_set (Chg.refl _ _) dg j _
  refine ⟨rfl, ⟨_, (hC.mono (fun _ _ e => e.elim)).trans hcs (fun i _ e => by subst e; exact hfd)⟩, F, rfl, ⟨gs, vs, ?_, hF⟩, fun _ h => .inl h⟩
  refine ⟨(hcs.block p hrW.plt (Ne.symm hnp)).trans hrW.blk, ?_, by simp [hrW.len], ?_, hrW.apart, by simpa using hrW.fits, hrW.lasts, ?_⟩
  · rw [flat_set_same _ _ _ x { x with data := x.data.set j b } hx rfl rfl rfl]
    simp only [List.length_set]
    exact own_chg hrW.own hcs hng
  · intro k y u hy hu
    by_cases hk : k = i
    · subst hk
      rw [hv] at hu
      cases hu
      rw [List.getElem?_set_self (by exact (List.getElem?_eq_some_iff.1 hx).1)] at hy
      cases hy
      have := own_set (u := .int .u8 (b.toNat : Int)) (hrW.data k x _ hx hv) hj
      simpa [bv, List.map_set] using this
    · rw [List.getElem?_set_ne (Ne.symm hk)] at hy
      exact own_chg (hrW.data k y u hy hu) hcs fun q hq e => hk (hrW.apart k i u _ dg hu hv (by rw [hq, e]) rfl)
  · intro y hy
    rcases List.mem_or_eq_of_mem_set hy with h | rfl
    · exact hrW.small y h
    · simpa using hrW.small x (List.mem_of_getElem? hx)

theorem spoil_good (p i : Nat) (B : BagS) (F : Nat → Prop) (at' by' : Int) (w : World) (hB : IsBag w p B F) (x : Gm) (hx : B.l[i]? = some x) (hat : -9223372036854775808 ≤ at' ∧ at' ≤ 9223372036854775807) :
    Calls Tryz.prog 92 #[.pointer (some ⟨p, 0, none⟩), i64 i, i64 at', i64 by'] w (BagTo w p (spoilS B i at' by').1 F (i64 (spoilS B i at' by').2)) := by
  have hi : i < B.l.length := (List.getElem?_eq_some_iff.1 hx).1
  have ha := asked_good (List.getElem?_eq_some_iff.1 hx).1
  have hB0 := hB
  obtain ⟨gs, vs, hr, hF⟩ := hB
  have hv : vs[i]? = some (vs[i]'(by rw [hr.len]; exact hi)) := List.getElem?_eq_getElem _
  generalize vs[i]'(by rw [hr.len]; exact hi) = v at hv
  have hd := hr.data i x v hx hv
  have hsm := hr.small x (List.mem_of_getElem? hx)
  obtain ⟨c0, c1, c2, _⟩ := hr.cells
  have i1 : Old p w := ⟨hr.plt⟩
  have hown := hr.own
  have hnp := own_ne hd hr.blk (by decide)
  obtain ⟨g, cap, rfl, _, hg⟩ := hown.form (by omega)
  have i2 : Old g w := ⟨hg⟩
  obtain ⟨a0, a1, a2, a3⟩ := gram_cells hown hr.len hx hv
  by_cases hbad : by' < 1 ∨ 255 < by' ∨ x.data.length = 0
  · have ed : spoilS B i at' by' = (B, 1) := by simp only [spoilS, if_neg (show ¬ (i : Int) < 0 by omega), Int.toNat_natCast, hx, if_pos hbad]
    rw [ed]
    obtain ⟨A, c, rfl⟩ := own_shape hd
    rcases (show by' < 1 ∨ (1 ≤ by' ∧ 255 < by') ∨ (1 ≤ by' ∧ by' ≤ 255 ∧ x.data.length = 0) from by omega) with h | ⟨h, h'⟩ | ⟨h, h', h''⟩
    all_goals
      go_enter Tryz.func92, Tryz.ntmps92
      go_wp2_with (go_at_call 124; refine (asked_one p B F _ _ (i : Int) _ (hB0.grow (by repeat (with_reducible first | exact Chg.refl _ _ | refine chg_m ?_ _ | refine chg_g ?_ _ | refine chg_alloc ?_ _ | refine chg_drew ?_ | refine chg_drewN ?_ _ | refine chg_set ?_ _ _ _))) (by simp [go_sem]) (Old.lt (b := w.heap.size))).mono ?_; rintro e w' ⟨rfl, g1, rfl⟩)
      go_ret
      refine BagTo.same (gr_mk rfl ?_) hB0
      repeat (with_reducible first | exact Chg.refl _ _ | refine chg_m ?_ _ | refine chg_g ?_ _ | refine chg_alloc ?_ _ | refine chg_drew ?_ | refine chg_drewN ?_ _ | refine chg_set ?_ _ _ _)
  · obtain ⟨dg, dcap, rfl, _, hdg⟩ := hd.form (by omega)
    have hj0 := Int.emod_nonneg at' (show (x.data.length : Int) ≠ 0 by omega)
    have hj1 := Int.emod_lt_of_pos at' (show (0 : Int) < (x.data.length : Int) by omega)
    have ed : spoilS B i at' by' = ({ B with l := B.l.set i { x with data := x.data.set (at' % x.data.length).toNat ((x.data.getD (at' % x.data.length).toNat 0) ^^^ UInt8.ofNat by'.toNat) } }, 0) := by
      simp only [spoilS, if_neg (show ¬ (i : Int) < 0 by omega), Int.toNat_natCast, hx, if_neg hbad]
    rw [ed]
    have hround := fun W => round_any at' x.data.length W (by omega) (by omega) hat
    generalize hj : at' % (x.data.length : Int) = J at *
    obtain ⟨j, rfl⟩ := Int.eq_ofNat_of_zero_le hj0
    have hjl : j < x.data.length := by omega
    have i3 : Old dg w := ⟨hdg⟩
    have d0 : w.cell? ⟨dg, j, none⟩ = some (.int .u8 (x.data[j].toNat : Int)) := by
      rw [hd.cellAt _ (by omega)]
      simp [bv, hjl]
    have d1 : w.frozen? ⟨dg, j, none⟩ = false := hd.frozenAt _
    have hne0 : ((x.data.length : Int) == 0) = false := beq_eq_false_iff_ne.2 (by omega)
    have hb1 : ¬ by' < 1 := by omega
    have hb2 : ¬ 255 < by' := by omega
    have hb3 : ¬ by' > 255 := by omega
    clear hj
    have hxor := xor_byte x.data[j] by' (by omega) (by omega)
    have HS := Lib.hid (fun W (h : Chg Noth w W) => spoil_end (W := W) (r := i64 0) (x.data[j] ^^^ UInt8.ofNat by'.toNat) hr hF h hx hv hjl)
    simp only [Int.toNat_natCast, List.getD_eq_getElem?_getD, List.getElem?_eq_getElem hjl, Option.getD_some]
    clear hr hd hown hv hx ed
    go_enter Tryz.func92, Tryz.ntmps92
    go_wp2_with (first
      | (go_at_call 124; refine (asked_one p B F _ _ (i : Int) _ (hB0.grow (by repeat (with_reducible first | exact Chg.refl _ _ | refine chg_m ?_ _ | refine chg_g ?_ _ | refine chg_alloc ?_ _ | refine chg_drew ?_ | refine chg_drewN ?_ _ | refine chg_set ?_ _ _ _))) (by simp [go_sem]) (Old.lt (b := w.heap.size))).mono ?_; rintro e w' ⟨rfl, g1, rfl⟩)
      | (go_at_call 129; refine (hround _).mono ?_; rintro e w' ⟨rfl, g2, rfl⟩))
    go_ret
    exact HS.out _ (by
      repeat (with_reducible first | exact Chg.refl _ _ | refine chg_m ?_ _ | refine chg_g ?_ _ | refine chg_alloc ?_ _ | refine chg_drew ?_ | refine chg_drewN ?_ _ | refine chg_set ?_ _ _ _))
end Go.Proofs.YteemkceceaabkaaGreat
