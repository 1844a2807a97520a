/- The document's bag: Spoil. -/
import Derived.Test.YteemkceceaabkaaGreatP4
import Derived.Test.YteemkceceaabkaaGreatH
namespace Go.Proofs.YteemkceceaabkaaGreat
open Go.RowKit Go.Ear
set_option maxHeartbeats 2000000
set_option maxRecDepth 40000

theorem flat_set_val (l : List Gm) (vs : List Value) (i : Nat) (u : Value) (h : vs.length = l.length) (hi : i < l.length) : flat l (vs.set i u) = (flat l vs).set (i * 4 + 3) u := by
  unfold flat
  induction l generalizing vs i with
  | nil => simp at hi
  | cons z l ih =>
    match vs, h with
    | v :: vs, h =>
      cases i with
      | zero => simp [hcells]
      | succ i =>
        simp only [List.set_cons_succ, List.zip_cons_cons, List.flatMap_cons]
        rw [ih vs i (by simpa using h) (by simpa using hi)]
        rw [List.set_append_right _ _ (by simp [hcells]; omega)]
        congr 2
        simp [hcells]
        omega

theorem spoilR_any (lb off : Nat) (cs : Array Value) (t : TypeId) (B : BagS) (F : Nat → Prop) (i a b : Int) (w : World) (hB : IsRef w lb off cs t B F) (hat : -9223372036854775808 ≤ a ∧ a ≤ 9223372036854775807) :
    Calls Tryz.prog 93 #[.pointer (some ⟨lb, off, none⟩), i64 i, i64 a, i64 b] w (RefTo w lb off cs t (spoilS B i a b).1 F (i64 (spoilS B i a b).2)) := by
  have hhas := fun W h => has_any lb off cs t B F i W h
  by_cases hbad : i < 0 ∨ (B.l.length : Int) ≤ i
  · have ed : spoilS B i a b = (B, 91) := by
      unfold spoilS
      split
      · rfl
      · rw [List.getElem?_eq_none (by omega)]
    rw [ed]
    rw [show decide (0 ≤ i ∧ i < (B.l.length : Int)) = false from by simp; omega] at hhas
    go_enter Tryz.func93, Tryz.ntmps93
    go_wp2_with (go_at_call 127; refine (hhas _ (hB.grow (by repeat (with_reducible first | exact Chg.refl _ _ | refine chg_m ?_ _ | refine chg_g ?_ _ | refine chg_alloc ?_ _ | refine chg_drew ?_ | refine chg_drewN ?_ _ | refine chg_set ?_ _ _ _)))).mono ?_; rintro e w' ⟨rfl, g1, rfl⟩)
    go_ret
    exact RefTo.same (gr_mk rfl (by repeat (with_reducible first | exact Chg.refl _ _ | refine chg_m ?_ _ | refine chg_g ?_ _ | refine chg_alloc ?_ _ | refine chg_drew ?_ | refine chg_drewN ?_ _ | refine chg_set ?_ _ _ _))) hB
  · obtain ⟨i, rfl⟩ := Int.eq_ofNat_of_zero_le (show 0 ≤ i by omega)
    have hi : i < B.l.length := by omega
    obtain ⟨x, hx⟩ : ∃ x, B.l[i]? = some x := ⟨_, List.getElem?_eq_getElem hi⟩
    rw [show decide (0 ≤ (i : Int) ∧ (i : Int) < (B.l.length : Int)) = true from by simp; omega] at hhas
    have hB0 := hB
    obtain ⟨gs, vs, hr, hF⟩ := hB
    have hv : vs[i]? = some (vs[i]'(by rw [hr.len]; exact hi)) := List.getElem?_eq_getElem _
    generalize vs[i]'(by rw [hr.len]; exact hi) = v at hv
    have hd := hr.data i x v hx hv
    have hsm := hr.small x (List.mem_of_getElem? hx)
    obtain ⟨c0, c1, c2, _, hlb⟩ := hr.cells
    have i1 : Old lb w := ⟨hlb⟩
    have hown := hr.own
    obtain ⟨g, cap, rfl, _, hg⟩ := hown.form (by omega)
    have i2 : Old g w := ⟨hg⟩
    obtain ⟨a0, a1, a2, a3⟩ := gram_cells hown hr.len hx hv
    have hle : B.l.length ≤ 65536 := by have := hr.fits; omega
    obtain ⟨A, c, rfl⟩ := own_shape hd
    by_cases hbad2 : b < 1 ∨ 255 < b ∨ x.data.length = 0
    · have ed : spoilS B i a b = (B, 1) := by simp only [spoilS, if_neg (show ¬ (i : Int) < 0 by omega), Int.toNat_natCast, hx, if_pos hbad2]
      rw [ed]
      obtain ⟨n, hn⟩ : ∃ n, n = B.l.length := ⟨_, rfl⟩
      rw [← hn] at c0 hi hle
      clear hn hr hown hv hx ed hd hbad
      rcases (show b < 1 ∨ (1 ≤ b ∧ 255 < b) ∨ (1 ≤ b ∧ b ≤ 255 ∧ x.data.length = 0) from by omega) with h | ⟨h, h'⟩ | ⟨h, h', h''⟩
      all_goals
        go_enter Tryz.func93, Tryz.ntmps93
        go_wp2_with (go_at_call 127; refine (hhas _ (hB0.grow (by repeat (with_reducible first | exact Chg.refl _ _ | refine chg_m ?_ _ | refine chg_g ?_ _ | refine chg_alloc ?_ _ | refine chg_drew ?_ | refine chg_drewN ?_ _ | refine chg_set ?_ _ _ _)))).mono ?_; rintro e w' ⟨rfl, g1, rfl⟩)
        go_ret
        exact RefTo.same (gr_mk rfl (by repeat (with_reducible first | exact Chg.refl _ _ | refine chg_m ?_ _ | refine chg_g ?_ _ | refine chg_alloc ?_ _ | refine chg_drew ?_ | refine chg_drewN ?_ _ | refine chg_set ?_ _ _ _))) hB0
    · obtain ⟨dg, dcap, e1, _, hdg⟩ := hd.form (by omega)
      cases e1
      have hj0 := Int.emod_nonneg a (show (x.data.length : Int) ≠ 0 by omega)
      have hj1 := Int.emod_lt_of_pos a (show (0 : Int) < (x.data.length : Int) by omega)
      have ed : spoilS B i a b = ({ B with l := B.l.set i { x with data := x.data.set (a % x.data.length).toNat ((x.data.getD (a % x.data.length).toNat 0) ^^^ UInt8.ofNat b.toNat) } }, 0) := by
        simp only [spoilS, if_neg (show ¬ (i : Int) < 0 by omega), Int.toNat_natCast, hx, if_neg hbad2]
      rw [ed]
      have hround := fun W => roundR_any a x.data.length W (by omega) (by omega) hat
      generalize hj : a % (x.data.length : Int) = J at *
      obtain ⟨j, rfl⟩ := Int.eq_ofNat_of_zero_le hj0
      have hjl : j < x.data.length := by omega
      have hs := SL.of_own hd
      have hcs := hs.addr
      have hne0 : ((x.data.length : Int) == 0) = false := beq_eq_false_iff_ne.2 (by omega)
      have hb1 : ¬ b < 1 := by omega
      have hb2 : ¬ 255 < b := by omega
      have hxor := xor_byte x.data[j] b (by omega) (by omega)
      simp only [Int.toNat_natCast, List.getD_eq_getElem?_getD, List.getElem?_eq_getElem hjl, Option.getD_some]
      obtain ⟨u, hu⟩ : ∃ u, u = x.data[j] ^^^ UInt8.ofNat b.toNat := ⟨_, rfl⟩
      rw [← hu] at hxor ⊢
      clear hu
      obtain ⟨i0, hi0, hz0, hz1, hz2⟩ := info_parts info5
      obtain ⟨n, hn⟩ : ∃ n, n = B.l.length := ⟨_, rfl⟩
      rw [← hn] at c0 hi hle
      obtain ⟨len, hlen⟩ : ∃ len, len = x.data.length := ⟨_, rfl⟩
      have HN := Lib.hid hn
      have HR := Lib.hid hr
      have HF := Lib.hid hF
      have HX := Lib.hid hx
      have HV := Lib.hid hv
      have h1c := bv_one x.data
      have hcW : ∀ W, Chg Noth w W → ∀ j u, (bv x.data)[j]? = some u → W.cell? ((⟨dg, 0, none⟩ : Addr).add j) = some u := fun W hW => (hs.grow hW).addr
      clear hn hr hF hx hv hown hj ed hbad hbad2 hlen hd hcs c1 c2
      go_enter Tryz.func93, Tryz.ntmps93
      go_wp2_with (first
        | (go_at_call 127; refine (hhas _ (hB0.grow (by repeat (with_reducible first | exact Chg.refl _ _ | refine chg_m ?_ _ | refine chg_g ?_ _ | refine chg_alloc ?_ _ | refine chg_drew ?_ | refine chg_drewN ?_ _ | refine chg_set ?_ _ _ _)))).mono ?_; rintro e w' ⟨rfl, g1, rfl⟩)
        | (at_builtin; refine wpList_append_own _ rfl _ _ 68 rfl w.heap.size 5 i0 _ 1 1 Tryz.underlying68 hi0 hz0 hz1 hz2 rfl (by decide) (.slice none 0 0) 0 [] rfl (World.ownsRow_nil _ _ _ _) ⟨dg, 0, none⟩ x.data.length c (bv x.data) rfl (by simp) (hcW _ (by repeat (with_reducible first | exact Chg.refl _ _ | refine chg_m ?_ _ | refine chg_g ?_ _ | refine chg_alloc ?_ _ | refine chg_drew ?_ | refine chg_drewN ?_ _ | refine chg_set ?_ _ _ _))) h1c (by simp only [maxLen]; omega) (by omega) (by have := g1.h.size; simp <;> omega) ?_; intro v1 w1 hown1 hg1 _; simp only [Nat.zero_add, List.nil_append] at hown1; obtain ⟨A1, c1, rfl⟩ := own_shape hown1; have hC1 := (Chg.of_grown hg1).mono (G := Noth) (fun _ _ e => by simp [Value.ownBlock] at e); clear hg1))
      have hCw : Chg Noth w w1 := g1.h.trans hC1 fun _ _ e => e
      obtain ⟨dn, cn, e2, hdn1, hdn2⟩ := hown1.form (by omega)
      cases e2
      have d0 : w1.cell? ⟨dn, j, none⟩ = some (.int .u8 (x.data[j].toNat : Int)) := by
        rw [hown1.cellAt _ (by omega)]
        simp [bv, hjl]
      have d1 : w1.frozen? ⟨dn, j, none⟩ = false := hown1.frozenAt _
      have q0 : w1.cell? ⟨lb, off, none⟩ = some (.slice (some ⟨g, 0, none⟩) n cap) := (hCw.cell (p := ⟨lb, off, none⟩) hlb fun e => e).trans c0
      have hg1 : w1.ownsRow 0 110 4 (.slice (some ⟨g, 0, none⟩) B.l.length cap) B.l.length (flat B.l vs) := own_chg HR.out.own hCw fun _ _ e => e
      have q3 : w1.cell? ⟨g, i * 4 + 3, none⟩ = some (.slice (some ⟨dg, 0, none⟩) x.data.length c) := (hCw.cell (p := ⟨g, i * 4 + 3, none⟩) hg fun e => e).trans a3
      have q4 : w1.frozen? ⟨g, i * 4 + 3, none⟩ = false := hg1.frozenAt _
      have j1 : Old lb w1 := ⟨Nat.lt_of_lt_of_le hlb hCw.size⟩
      have j2 : Old g w1 := ⟨Nat.lt_of_lt_of_le hg hCw.size⟩
      have j3 : Old dn w1 := ⟨hdn2⟩
      have n1 : ¬ g = dn := by omega
      have n2 : ¬ lb = dn := by omega
      have HG := Lib.hid hg1
      have HO := Lib.hid hown1
      have HC := Lib.hid hCw
      clear hg1 hown1 hCw hC1 g1 a0 a1 a2 a3 c0 hcW hB0 hhas
      go_wp2_with (go_at_call 130; refine (hround _).mono ?_; rintro e w' ⟨rfl, g2, rfl⟩)
      go_ret
      have mg : May g (fun q => q = g ∨ w.heap.size ≤ q) w1 := ⟨.inl (.inl rfl)⟩
      have mn : May dn (fun q => q = g ∨ w.heap.size ≤ q) w1 := ⟨.inl (.inr hdn1)⟩
      have mn' : May dn (fun q => q = dn) w1 := ⟨.inl rfl⟩
      have mg' : ∀ W : World, May g (fun q => q = g) W := fun _ => ⟨.inl rfl⟩
      have hW2 : Chg (fun q => q = dn) w1 (g2.w.setCell ⟨dn, j, none⟩ (.int .u8 (u.toNat : Int))) := chg_set (chg_g (Chg.refl _ _) g2) _ _ _
      have hrow : (g2.w.setCell ⟨dn, j, none⟩ (.int .u8 (u.toNat : Int))).ownsRow w.heap.size 5 1 (.slice (some ⟨dn, 0, none⟩) x.data.length c1) x.data.length (bv (x.data.set j u)) := by
        have := own_set (u := .int .u8 (u.toNat : Int)) (own_chg HO.out g2.h fun _ _ e => e) hjl
        simpa [bv, List.map_set] using this
      have hgs : (g2.w.setCell ⟨dn, j, none⟩ (.int .u8 (u.toNat : Int))).ownsRow 0 110 4 (.slice (some ⟨g, 0, none⟩) B.l.length cap) B.l.length (flat B.l vs) := own_chg HG.out hW2 fun q hq e => by simp [Value.ownBlock] at hq; omega
      have hZ : Chg (fun q => q = g) (g2.w.setCell ⟨dn, j, none⟩ (.int .u8 (u.toNat : Int))) ((g2.w.setCell ⟨dn, j, none⟩ (.int .u8 (u.toNat : Int))).setCell ⟨g, i * 4 + 3, none⟩ (.slice (some ⟨dn, 0, none⟩) x.data.length c1)) := by
        have := mg' (g2.w.setCell ⟨dn, j, none⟩ (.int .u8 (u.toNat : Int)))
        exact chg_set (Chg.refl _ _) _ _ _
      have hgs2 := own_setN (j := i * 4 + 3) (u := .slice (some ⟨dn, 0, none⟩) x.data.length c1) hgs
      have hCA : Chg (fun q => q = g ∨ w.heap.size ≤ q) w ((g2.w.setCell ⟨dn, j, none⟩ (.int .u8 (u.toNat : Int))).setCell ⟨g, i * 4 + 3, none⟩ (.slice (some ⟨dn, 0, none⟩) x.data.length c1)) :=
        (HC.out.mono fun _ _ e => e.elim).trans ((hW2.mono (G := fun q => q = g ∨ w.heap.size ≤ q) fun q _ e => .inr (by omega)).trans hZ fun q _ e => .inl e) fun _ _ e => e
      have hrow3 := own_chg hrow hZ fun q hq e => by simp [Value.ownBlock] at hq; omega
      have hgF : F g := (HF.out g).2 (.inl rfl)
      generalize (g2.w.setCell ⟨dn, j, none⟩ (.int .u8 (u.toNat : Int))).setCell ⟨g, i * 4 + 3, none⟩ (.slice (some ⟨dn, 0, none⟩) x.data.length c1) = W3 at *
      have hCL : Chg (fun q => q = lb ∨ F q) w W3 := hCA.mono fun q hq e => e.elim (fun e => .inr (e ▸ hgF)) (fun e => by omega)
      have hlg : lb ≠ g := fun e => HR.out.ne_lb (.inl rfl) e.symm
      have hvl : i < vs.length := by have := HR.out.len; have := HN.out; omega
      refine ⟨rfl, ⟨W3, hCL⟩, .slice (some ⟨g, 0, none⟩) B.l.length cap, footR (.slice (some ⟨g, 0, none⟩) B.l.length cap) (vs.set i (.slice (some ⟨dn, 0, none⟩) x.data.length c1)), rfl, ⟨_, vs.set i (.slice (some ⟨dn, 0, none⟩) x.data.length c1), ?_, fun _ => Iff.rfl⟩, ?_⟩
      · rw [set_same HR.out.c0, set_same HR.out.c1]
        refine ⟨(hCA.block lb hlb (by omega)).trans HR.out.blk, HR.out.ne, by simpa using HR.out.c0, HR.out.c1, HR.out.c2, ?_, by simp [HR.out.len], ?_, by simpa using HR.out.fits, HR.out.lasts, ?_⟩
        · have eq1 : flat (B.l.set i { x with data := x.data.set j u }) (vs.set i (.slice (some ⟨dn, 0, none⟩) x.data.length c1)) = (flat B.l vs).set (i * 4 + 3) (.slice (some ⟨dn, 0, none⟩) x.data.length c1) := by
            rw [flat_set_same (y := { x with data := x.data.set j u }) _ _ _ x HX.out rfl rfl rfl, flat_set_val _ _ _ _ HR.out.len (by have := HN.out; omega)]
          show W3.ownsRow 0 110 4 _ (B.l.set i { x with data := x.data.set j u }).length (flat (B.l.set i { x with data := x.data.set j u }) _)
          rw [eq1, List.length_set]
          exact hgs2
        · intro k y u' hy hu'
          by_cases hk : k = i
          · subst hk
            rw [List.getElem?_set_self hvl] at hu'
            rw [List.getElem?_set_self (by have := HN.out; omega)] at hy
            cases hu'
            cases hy
            simp only [List.length_set]
            exact own_base hrow3 (Nat.zero_le _)
          · rw [List.getElem?_set_ne (Ne.symm hk)] at hu' hy
            have ho := HR.out.data k y u' hy hu'
            exact own_chg ho hCA fun q hq e => by
              rcases e with e | e
              · subst e
                exact own_own ho HR.out.own (by decide) q hq rfl
              · have := (ho.lt q hq).2
                omega
        · intro y hy
          rcases List.mem_or_eq_of_mem_set hy with h | rfl
          · exact HR.out.small y h
          · simpa using hsm
      · rintro q (h | ⟨u', hu', hq⟩)
        · exact .inl ((HF.out q).2 (.inl h))
        · rcases List.mem_or_eq_of_mem_set hu' with h | rfl
          · exact .inl ((HF.out q).2 (.inr ⟨u', h, hq⟩))
          · simp [Value.ownBlock] at hq
            exact .inr (by omega)
end Go.Proofs.YteemkceceaabkaaGreat
