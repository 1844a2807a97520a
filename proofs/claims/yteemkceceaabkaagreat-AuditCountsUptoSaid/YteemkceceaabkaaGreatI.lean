/- Move. -/
import Derived.Test.YteemkceceaabkaaGreatBc
set_option linter.unusedSimpArgs false
set_option linter.unusedVariables false
namespace Go.Proofs.YteemkceceaabkaaGreat
open Go.RowKit Go.Ear
set_option maxHeartbeats 1000000
set_option maxRecDepth 20000

/-- What Move does. -/
def moveS (B : BagS) (i j : Int) : BagS × Int :=
  if askedF B.l.length [i, j] = 91 then (B, 91) else match B.l[i.toNat]? with
  | none => (B, 91)
  | some x => ({ B with l := (B.l.eraseIdx i.toNat).insertIdx j.toNat x }, 0)

theorem move_bad (p : Nat) (B : BagS) (F : Nat → Prop) (i j : Int) (w : World) (hB : IsBag w p B F) (h : askedF B.l.length [i, j] = 91) :
    Calls Tryz.prog 90 #[.pointer (some ⟨p, 0, none⟩), i64 i, i64 j] w (Gr (i64 91) w) := by
  go_enter Tryz.func90, Tryz.ntmps90
  go_wp2_with (go_at_call 124; refine (asked_two p B F _ _ i j _ (hB.grow (by repeat (with_reducible first | exact Chg.refl _ _ | refine chg_m ?_ _ | refine chg_g ?_ _ | refine chg_alloc ?_ _ | refine chg_drew ?_ | refine chg_drewN ?_ _ | refine chg_set ?_ _ _ _))) (by simp [go_sem]) (by simp [go_sem]) (Old.lt (b := w.heap.size))).mono ?_; rintro e w' ⟨rfl, g1, rfl⟩)
  go_ret
  exact gr_mk rfl (by
    repeat (with_reducible first | exact Chg.refl _ _ | refine chg_m ?_ _ | refine chg_g ?_ _ | refine chg_alloc ?_ _ | refine chg_drew ?_ | refine chg_drewN ?_ _ | refine chg_set ?_ _ _ _))

/-- 'copy' between two places of one row, whatever its elements' size. -/
theorem step_copy_cells {P : Program} {ops : Array Oper} {o : Oper} {a : Act} {w : World} {K : Act → World → Prop} {Q : Exit → Act → World → Prop} {E : Prop} (hgd : o.guard = none) (d s : Operand) (dT sT : TypeId)
    (ho : o.op = .call { callee := .builtin .copy, args := #[d, s], argTypes := #[dT, sT] }) (elem : TypeId) (i : TypeInfo) (size : Nat) (hu : P.underlying dT = some (.slice elem)) (hi : P.info? elem = some i) (hz : i.size = size)
    (g off dLen dCap : Nat) (ad : Addr) (sLen sCap : Nat) (hd : a.eval d = .slice (some ⟨g, off, none⟩) dLen dCap) (hs : a.eval s = .slice (some ad) sLen sCap)
    (cs : List Value) (hn : cs.length = Nat.min sLen dLen * size)
    (hsrc : ∀ j v, cs[j]? = some v → w.cell? (ad.add j) = some v) (hc : ∀ j, j < cs.length → (w.cell? ⟨g, off + j, none⟩).isSome = true ∧ w.frozen? ⟨g, off + j, none⟩ = false) (h1 : ∀ v ∈ cs, v.oneCell' = true)
    (h : K (a.put o.dst (goInt (Nat.min sLen dLen))) (w.setCells g off cs)) :
    if Region.wanted o (yielded ops a.tmps) = true then Oper.wp P o a w K Q else E := by
  have hw : Region.wanted o (yielded ops a.tmps) = true := by simp [Region.wanted, hgd]
  rw [if_pos hw]
  subst hz
  have hfc := run_firstCells_some (P := P) w i.size (Nat.min sLen dLen) ad sLen sCap cs hn hsrc
  have hst := run_storeCells_cells (P := P) g off cs 0 w (by simpa using fun j hj => (hc j hj).1) (by simpa using fun j hj => (hc j hj).2) h1
  simp only [Nat.add_zero] at hst
  have hrun : (Builtin.copy_ #[dT, sT] o.type #[.slice (some ⟨g, off, none⟩) dLen dCap, .slice (some ad) sLen sCap]).run P w = .ok (goInt (Nat.min sLen dLen)) (w.setCells g off cs) := by
    simp [Builtin.copy_, run_underlying hu, Builtin.lenOf, sizeOf, typeInfo, hi, hfc, hst]
  unfold Oper.wp
  simp [execOp, ho, resolve, invoke, builtin, hd, hs, hrun, Result.andThen]
  exact h

theorem flat_cons (y : Gm) (l : List Gm) (u : Value) (vs : List Value) : flat (y :: l) (u :: vs) = hcells (y, u) ++ flat l vs := by simp [flat]
theorem flat_insert (l : List Gm) (vs : List Value) (j : Nat) (x : Gm) (v : Value) (h : vs.length = l.length) (hj : j ≤ l.length) :
    flat (l.insertIdx j x) (vs.insertIdx j v) = (flat l vs).take (j * 4) ++ (hcells (x, v) ++ (flat l vs).drop (j * 4)) := by
  induction j generalizing l vs with
  | zero => simp [flat_cons]
  | succ j ih =>
    match l, vs, h, hj with
    | y :: l, u :: vs, h, hj =>
      have e4 : (hcells (y, u)).length = 4 := rfl
      simp only [List.insertIdx_succ_cons, flat_cons]
      rw [ih l vs (by simpa using h) (by simpa using hj)]
      have e5 : (j + 1) * 4 = (hcells (y, u)).length + j * 4 := by rw [e4]; omega
      rw [e5, List.take_length_add_append, List.drop_length_add_append, List.append_assoc]
theorem row4 (L T M D : List Value) (o : Nat) (a b c d : Value) (h : L = T ++ (M ++ D)) (hT : T.length = o) (hM : M.length = 4) :
    (((L.set o a).set (o + 1) b).set (o + 2) c).set (o + 3) d = T ++ ([a, b, c, d] ++ D) := by
  subst h hT
  match M, hM with
  | [m0, m1, m2, m3], _ => simp
theorem own_setN {w : World} {base : Nat} {e : TypeId} {n g cap j sz : Nat} {xs : List Value} {u : Value} (h : w.ownsRow base e sz (.slice (some ⟨g, 0, none⟩) n cap) n xs) :
    (w.setCell ⟨g, j, none⟩ u).ownsRow base e sz (.slice (some ⟨g, 0, none⟩) n cap) n (xs.set j u) := by
  obtain ⟨hl, h2⟩ := h
  rcases h2 with ⟨h', _⟩ | ⟨g', cap', cur, h', hb, hg, hnc, hcm, hcs, htake⟩
  · simp at h'
  · simp only [Value.slice.injEq, Option.some.injEq, Addr.mk.injEq, and_true, true_and] at h'
    obtain ⟨rfl, rfl⟩ := h'
    refine ⟨by simp [hl], .inr ⟨g, cap, _, rfl, hb, heap_setCell_same _ g j _ _ u hg, hnc, hcm, by simp [hcs], ?_⟩⟩
    rw [Array.toList_setIfInBounds, List.take_set, htake]

theorem insert_get {α : Type} {l : List α} {j k : Nat} {x y : α} (_ : j ≤ l.length) (h : (l.insertIdx j x)[k]? = some y) : (k = j ∧ y = x) ∨ (k ≠ j ∧ l[if k < j then k else k - 1]? = some y) := by
  rw [List.getElem?_insertIdx] at h
  split at h
  · exact .inr ⟨by omega, by rw [if_pos (by assumption)]; exact h⟩
  · split at h
    · split at h
      · exact .inl ⟨by omega, by simpa using h.symm⟩
      · simp at h
    · exact .inr ⟨by omega, by rw [if_neg (by assumption)]; exact h⟩

/-- A bag into whose list one datagram has been brought. -/
theorem move_end {u Wf : World} {p g cap j : Nat} {B : BagS} {F : Nat → Prop} {gs v : Value} {vs : List Value} {x : Gm} (hr : BagRep u p B gs vs) (hF : ∀ k, F k ↔ foot p gs vs k) (hj : j ≤ B.l.length) (hroom : (B.l.length : Int) + 1 ≤ B.room)
    (hcA : Chg (fun k => k = p ∨ gs.ownBlock = some k) u Wf) (hat : gs.ownBlock = some g ∨ u.heap.size ≤ g) (hblk : Wf.heap[p]? = some (.cells #[i64 B.room, i64 B.last, .slice (some ⟨g, 0, none⟩) (B.l.length + 1) cap] 67 (0, 0)))
    (hrow : Wf.ownsRow 0 110 4 (.slice (some ⟨g, 0, none⟩) (B.l.length + 1) cap) (B.l.length + 1) ((flat B.l vs).take (j * 4) ++ (hcells (x, v) ++ (flat B.l vs).drop (j * 4))))
    (hv : u.ownsRow 0 5 1 v x.data.length (bv x.data)) (hvF : ∀ k, v.ownBlock = some k → ¬ F k) (hsm : x.data.length ≤ 1024) :
    ∃ (m : Muts F u) (F' : Nat → Prop), Wf = m.w ∧ IsBag m.w p { B with l := B.l.insertIdx j x } F' ∧ ∀ k, F' k → F k ∨ u.heap.size ≤ k ∨ v.ownBlock = some k := by
  have hlen : (B.l.insertIdx j x).length = B.l.length + 1 := List.length_insertIdx_of_le_length hj _
  have hvs : j ≤ vs.length := by rw [hr.len]; exact hj
  have hdata0 : ∀ (i : Nat) (x : Gm) (y : Value), B.l[i]? = some x → vs[i]? = some y → ∀ k, y.ownBlock = some k → ¬ (k = p ∨ gs.ownBlock = some k) := by
    intro i x y hx hy k hk
    have hd := hr.data i x y hx hy
    rintro (e | e)
    · exact own_ne hd hr.blk (by decide) k hk e
    · exact own_own hd hr.own (by decide) k hk e
  have hmemF : ∀ y ∈ vs, ∀ k, y.ownBlock = some k → F k := fun y hy k hk => (hF k).2 (.inr (.inr ⟨y, hy, hk⟩))
  refine ⟨⟨_, hcA.mono fun k _ e => (hF k).2 (e.elim Or.inl (fun e => Or.inr (Or.inl e)))⟩, foot p (.slice (some ⟨g, 0, none⟩) (B.l.length + 1) cap) (vs.insertIdx j v), rfl, ⟨_, vs.insertIdx j v, ?_, fun _ => Iff.rfl⟩, ?_⟩
  · refine ⟨hblk, ?_, ?_, ?_, ?_, ?_, hr.lasts, ?_⟩
    · simp only [hlen]
      rw [flat_insert _ _ _ _ _ hr.len hj]
      exact hrow
    · rw [hlen, List.length_insertIdx_of_le_length hvs, hr.len]
    · intro k y w hy hw
      rcases insert_get hj hy with ⟨h1, rfl⟩ | ⟨h1, hy⟩
      · rcases insert_get hvs hw with ⟨h2, rfl⟩ | ⟨h2, hw⟩
        · exact own_chg hv hcA fun q hq => by
            rintro (e | e)
            · exact hvF q hq ((hF q).2 (.inl e))
            · exact hvF q hq ((hF q).2 (.inr (.inl e)))
        · exact absurd h1 h2
      · rcases insert_get hvs hw with ⟨h2, rfl⟩ | ⟨h2, hw⟩
        · exact absurd h2 h1
        · exact own_chg (hr.data _ y w hy hw) hcA (hdata0 _ y w hy hw)
    · intro a b y z k ha hb hk hk'
      rcases insert_get hvs ha with ⟨h1, rfl⟩ | ⟨h1, ha2⟩ <;> rcases insert_get hvs hb with ⟨h2, h3⟩ | ⟨h2, hb2⟩
      · rw [h1, h2]
      · exact absurd (hmemF z (List.mem_of_getElem? hb2) k hk') (hvF k hk)
      · subst h3; exact absurd (hmemF y (List.mem_of_getElem? ha2) k hk) (hvF k hk')
      · have := hr.apart _ _ y z k ha2 hb2 hk hk'
        split at this <;> split at this <;> omega
    · rw [hlen]
      have := hr.fits
      simp
      omega
    · intro y hy
      rcases (List.mem_insertIdx hj).1 hy with rfl | h
      · exact hsm
      · exact hr.small y h
  · rintro k (rfl | h | ⟨y, hy, hk⟩)
    · exact .inl ((hF k).2 (.inl rfl))
    · simp [Value.ownBlock] at h
      subst h
      rcases hat with h | h
      · exact .inl ((hF g).2 (.inr (.inl h)))
      · exact .inr (.inl h)
    · rcases (List.mem_insertIdx hvs).1 hy with rfl | h
      · exact .inr (.inr hk)
      · exact .inl (hmemF y h k hk)

theorem BagTo.grow {w w' w2 : World} {p : Nat} {B : BagS} {F : Nat → Prop} {v : Value} {e : Ending} (h : BagTo w p B F v e w') (hg : Chg Noth w' w2) : BagTo w p B F v e w2 := by
  obtain ⟨rfl, m, F', rfl, hB, hF⟩ := h
  exact ⟨rfl, ⟨w2, m.h.trans hg (fun _ _ e => e.elim)⟩, F', rfl, hB.grow hg, hF⟩
theorem heap_alloc_hs (W : World) (o : Obj) (n : Nat) [h : HS W n] : (W.alloc o).heap[n]? = some o := by rw [← h.eq]; exact heap_alloc_new W o
theorem move_good (p i j : Nat) (B : BagS) (F : Nat → Prop) (w : World) (hB : IsBag w p B F) (x : Gm) (hx : B.l[i]? = some x) (hj : j < B.l.length) :
    Calls Tryz.prog 90 #[.pointer (some ⟨p, 0, none⟩), i64 i, i64 j] w (BagTo w p { B with l := (B.l.eraseIdx i).insertIdx j x } F (i64 0)) := by
  have hi := (List.getElem?_eq_some_iff.1 hx).1
  have ha : askedF B.l.length [(i : Int), (j : Int)] = 0 := by simp [askedF]; omega
  have hout := out_any p i B F
  have hFL : ∀ k, F k → k < w.heap.size := fun k hk => hB.lt hk
  have hsm : x.data.length ≤ 1024 := by
    obtain ⟨gs, vs, hr, _⟩ := hB
    exact hr.small x (List.mem_of_getElem? hx)
  have hfit : B.l.length ≤ 65536 ∧ (B.l.length : Int) ≤ B.room := by
    obtain ⟨gs, vs, hr, _⟩ := hB
    have := hr.fits
    omega
  have i9 : Foot F w := ⟨hFL⟩
  have hle : (B.l.eraseIdx i).length = B.l.length - 1 := by rw [List.length_eraseIdx, if_pos hi]
  go_enter Tryz.func90, Tryz.ntmps90
  go_wp2_with (go_at_call 124; refine (asked_two p B F _ _ (i : Int) (j : Int) _ (hB.grow (by repeat (with_reducible first | exact Chg.refl _ _ | refine chg_m ?_ _ | refine chg_g ?_ _ | refine chg_alloc ?_ _ | refine chg_drew ?_ | refine chg_drewN ?_ _ | refine chg_set ?_ _ _ _))) (by simp [go_sem]) (by simp [go_sem]) (Old.lt (b := w.heap.size))).mono ?_; rintro e w' ⟨rfl, g1, rfl⟩)
  refine (hout _ (hB.grow (by repeat (with_reducible first | exact Chg.refl _ _ | refine chg_m ?_ _ | refine chg_g ?_ _ | refine chg_alloc ?_ _ | refine chg_drew ?_ | refine chg_drewN ?_ _ | refine chg_set ?_ _ _ _))) x hx).mono ?_
  rintro e w' ⟨A, c, rfl, ho, m, F', rfl, hB', hF', hA⟩
  have i8 : Foot F' w := ⟨fun k hk => hFL k (hF' k hk)⟩
  obtain ⟨gs0, vs0, hr0, hF0⟩ := hB'
  obtain ⟨c0, c1, c2, f0⟩ := hr0.cells
  have f2 := f0 2
  clear f0
  obtain ⟨A0, cap0, rfl⟩ := own_shape hr0.own
  have i1 : Old p m.w := ⟨hr0.plt⟩
  have hown0 := hr0.own
  have hblk0 := hr0.blk
  have hnp := own_ne hown0 hr0.blk (by decide)
  have hownW := fun W' (h : Chg Noth m.w W') => own_chg hown0 h (fun _ _ e => e)
  obtain ⟨i0, hi0, hz0, hz1, hz2⟩ := info_parts info35
  generalize B.l.eraseIdx i = l0 at *
  have hl1 : (l0.length : Int) + 1 ≤ B.room := by omega
  have hl2 : l0.length + 1 ≤ 65536 := by omega
  have hl3 : j ≤ l0.length := by omega
  clear hle hfit
  have HO := Lib.hid ho
  have HR0 := Lib.hid hr0
  clear hr0 ho
  go_wp2_with (at_builtin; go_loud (refine wpList_append_lies _ rfl (.tmp 24) (.tmp 26) 58 rfl 0 110 i0 _ 4 48 Tryz.underlying58 hi0 hz0 hz1 hz2 rfl (by decide) (.slice A0 l0.length cap0) l0.length (flat l0 vs0) rfl (hownW _ (by repeat (with_reducible first | exact Chg.refl _ _ | refine chg_m ?_ _ | refine chg_g ?_ _ | refine chg_alloc ?_ _ | refine chg_drew ?_ | refine chg_drewN ?_ _ | refine chg_set ?_ _ _ _))) ⟨_, 0, none⟩ 1 1 [i64 0, i64 0, i64 0, .slice none 0 0] rfl rfl (World.news_of_block (cs := #[i64 0, i64 0, i64 0, .slice none 0 0]) (heap_alloc_hs _ _ _)) (by intro u hu; simp at hu; rcases hu with rfl | rfl | rfl | rfl <;> rfl) (by omega) (by simp only [maxLen]; omega) (by omega) (by omega) _ rfl ?_); intro g cap w1 hown1 hgrow hat hlt; have HC : Chg (fun k => (Value.slice A0 l0.length cap0).ownBlock = some k) m.w w1 := (Chg.mono (F := Noth) (by repeat (with_reducible first | exact Chg.refl _ _ | refine chg_m ?_ _ | refine chg_g ?_ _ | refine chg_alloc ?_ _ | refine chg_drew ?_ | refine chg_drewN ?_ _ | refine chg_set ?_ _ _ _)) (fun _ _ e => e.elim)).trans (Chg.of_grown hgrow) (fun _ _ e => e); have x1 : w1.cell? ⟨p, 2, none⟩ = some (.slice A0 l0.length cap0) := (HC.cell (p := ⟨p, 2, none⟩) (Old.lt (b := p)) (fun e => hnp p e rfl)).trans c2; have x2 : w1.frozen? ⟨p, 2, none⟩ = false := (HC.frozen (p := ⟨p, 2, none⟩) (Old.lt (b := p)) (fun e => hnp p e rfl)).trans f2; have y0 : w1.cell? ⟨m.w.heap.size, 0, none⟩ = some (i64 x.id) := (hgrow.cell_far ⟨m.w.heap.size, 0, none⟩ (Old.lt (b := m.w.heap.size)) (fun e => by have := (hown0.lt _ e.symm).2; simp at this)).trans (by simp [go_sem]); have y1 : w1.cell? ⟨m.w.heap.size, 1, none⟩ = some (i64 x.fr) := (hgrow.cell_far ⟨m.w.heap.size, 1, none⟩ (Old.lt (b := m.w.heap.size)) (fun e => by have := (hown0.lt _ e.symm).2; simp at this)).trans (by simp [go_sem]); have y2 : w1.cell? ⟨m.w.heap.size, 2, none⟩ = some (i64 x.to) := (hgrow.cell_far ⟨m.w.heap.size, 2, none⟩ (Old.lt (b := m.w.heap.size)) (fun e => by have := (hown0.lt _ e.symm).2; simp at this)).trans (by simp [go_sem]); have y3 : w1.cell? ⟨m.w.heap.size, 3, none⟩ = some (.slice A x.data.length c) := (hgrow.cell_far ⟨m.w.heap.size, 3, none⟩ (Old.lt (b := m.w.heap.size)) (fun e => by have := (hown0.lt _ e.symm).2; simp at this)).trans (by simp [go_sem]); have i20 : HasCell w1 p 2 := ⟨by rw [x1]; rfl⟩; have hat2 : (Value.slice A0 l0.length cap0).ownBlock = some g ∨ m.w.heap.size + 1 < g := hat.imp id (fun e => by rw [e]; simp); clear hgrow hat hownW)
  have hgp : g ≠ p := by
    rcases hat2 with h | h
    · exact hnp g h
    · have := i1.lt; omega
  have hg8 : g ≠ m.w.heap.size := by
    rcases hat2 with h | h
    · have := (hown0.lt _ h).2; omega
    · omega
  have hown2 := own_chg hown1 (chg_set (F := fun k => k = p) (Chg.refl _ w1) p 2 (.slice (some ⟨g, 0, none⟩) (l0.length + 1) cap)) (fun k hk e => hgp (by simp [Value.ownBlock] at hk; omega))
  have hcap : l0.length + 1 ≤ cap := by
    rcases hown2.2 with ⟨h', _⟩ | ⟨g', cap', cur, h', _, _, hnc, _⟩
    · simp at h'
    · simp only [Value.slice.injEq, Option.some.injEq, Addr.mk.injEq, and_true, true_and] at h'
      omega
  have hblk2 : (w1.setCell ⟨p, 2, none⟩ (.slice (some ⟨g, 0, none⟩) (l0.length + 1) cap)).heap[p]? = some (.cells #[i64 B.room, i64 B.last, .slice (some ⟨g, 0, none⟩) (l0.length + 1) cap] 67 (0, 0)) := heap_setCell_same _ p 2 _ _ _ ((HC.block p (Old.lt (b := p)) (fun e => hnp p e rfl)).trans hblk0)
  have HC2 : Chg (fun k => k = p ∨ (Value.slice A0 l0.length cap0).ownBlock = some k) m.w (w1.setCell ⟨p, 2, none⟩ (.slice (some ⟨g, 0, none⟩) (l0.length + 1) cap)) := (HC.mono (fun _ _ e => Or.inr e)).trans (chg_set (F := fun k => k = p) (Chg.refl _ w1) p 2 _) (fun _ _ e => Or.inl e)
  have k0 : (w1.setCell ⟨p, 2, none⟩ (.slice (some ⟨g, 0, none⟩) (l0.length + 1) cap)).cell? ⟨m.w.heap.size, 0, none⟩ = some (i64 x.id) := by simp [go_sem, y0]
  have k1 : (w1.setCell ⟨p, 2, none⟩ (.slice (some ⟨g, 0, none⟩) (l0.length + 1) cap)).cell? ⟨m.w.heap.size, 1, none⟩ = some (i64 x.fr) := by simp [go_sem, y1]
  have k2 : (w1.setCell ⟨p, 2, none⟩ (.slice (some ⟨g, 0, none⟩) (l0.length + 1) cap)).cell? ⟨m.w.heap.size, 2, none⟩ = some (i64 x.to) := by simp [go_sem, y2]
  have k3 : (w1.setCell ⟨p, 2, none⟩ (.slice (some ⟨g, 0, none⟩) (l0.length + 1) cap)).cell? ⟨m.w.heap.size, 3, none⟩ = some (.slice A x.data.length c) := by simp [go_sem, y3]
  have p2 : (w1.setCell ⟨p, 2, none⟩ (.slice (some ⟨g, 0, none⟩) (l0.length + 1) cap)).cell? ⟨p, 2, none⟩ = some (.slice (some ⟨g, 0, none⟩) (l0.length + 1) cap) := by simp [go_sem]
  generalize w1.setCell ⟨p, 2, none⟩ (.slice (some ⟨g, 0, none⟩) (l0.length + 1) cap) = W2 at *
  have hlen0 : (flat l0 vs0).length = l0.length * 4 := hcells_len _ _ HR0.out.len
  have hone0 := flat_one l0 vs0 HR0.out.data'
  have hsrc : ∀ q u, ((flat l0 vs0).drop (j * 4))[q]? = some u → W2.cell? ((⟨g, j * 4, none⟩ : Addr).add q) = some u := by
    intro q u hu
    rw [List.getElem?_drop] at hu
    have hq : j * 4 + q < (flat l0 vs0).length := (List.getElem?_eq_some_iff.1 hu).1
    rw [Go.WideShapes.add_plain, hown2.cellAt _ (by omega), List.getElem?_append_left hq]
    exact hu
  have hnl : ((flat l0 vs0).drop (j * 4)).length = (l0.length - j) * 4 := by rw [List.length_drop, hlen0]; omega
  have hone : ∀ u ∈ (flat l0 vs0).drop (j * 4), u.oneCell' = true := fun u hu => hone0 u (List.mem_of_mem_drop hu)
  have hspare : ∀ q, q < ((flat l0 vs0).drop (j * 4)).length → (W2.cell? ⟨g, (j + 1) * 4 + q, none⟩).isSome = true ∧ W2.frozen? ⟨g, (j + 1) * 4 + q, none⟩ = false := by
    intro q hq
    rw [hnl] at hq
    have hq' : (j + 1) * 4 + q < (l0.length + 1) * 4 := by omega
    rw [hown2.cellAt _ hq', List.getElem?_eq_getElem (by simp [hlen0]; omega)]
    exact ⟨rfl, hown2.frozenAt _⟩
  have hnil : j = l0.length → (flat l0 vs0).drop (j * 4) = [] := fun e => List.eq_nil_of_length_eq_zero (by rw [hnl, e]; simp)
  have Hnews : ∃ nw, nw = (flat l0 vs0).drop (j * 4) := ⟨_, rfl⟩
  obtain ⟨news, Hnews⟩ := Hnews
  rw [← Hnews] at hsrc hnl hone hspare hnil
  have HNN := Lib.hid Hnews
  obtain ⟨L3, hL3⟩ : ∃ L3, L3 = (flat l0 vs0 ++ [i64 0, i64 0, i64 0, .slice none 0 0]).take ((j + 1) * 4) ++ news := ⟨_, rfl⟩
  have HW3 : Hid (∀ W' : World, W'.heap = W2.heap → (W'.setCells g ((j + 1) * 4) news).ownsRow 0 110 4 (.slice (some ⟨g, 0, none⟩) (l0.length + 1) cap) (l0.length + 1) L3) := Lib.hid fun W' e => by
    have := own_setCells (q := l0.length - j) (m := j + 1) (o := (j + 1) * 4) (own_kept (b := W') hown2 (fun k _ => by rw [e])) rfl (by omega) hnl (by omega)
    rw [hL3]
    rwa [show j + 1 + (l0.length - j) = l0.length + 1 from by omega] at this
  have HW3N : Hid (news = [] → ∀ W' : World, W'.heap = W2.heap → W'.ownsRow 0 110 4 (.slice (some ⟨g, 0, none⟩) (l0.length + 1) cap) (l0.length + 1) L3) := Lib.hid fun e0 W' e => by
    have := HW3.out W' e
    rw [e0] at this
    exact this
  have HL3 : Hid (L3 = (flat l0 vs0).take (j * 4) ++ (((flat l0 vs0 ++ [i64 0, i64 0, i64 0, .slice none 0 0]).drop (j * 4)).take 4 ++ (flat l0 vs0).drop (j * 4))) := Lib.hid (by
    rw [hL3, HNN.out, show (j + 1) * 4 = j * 4 + 4 from by omega, List.take_add, List.append_assoc, List.take_append_of_le_length (by omega)])
  have HM3 : Hid ((((flat l0 vs0 ++ [i64 0, i64 0, i64 0, .slice none 0 0]).drop (j * 4)).take 4).length = 4) := Lib.hid (by simp [hlen0]; omega)
  have HL3l : Hid (L3.length = (l0.length + 1) * 4) := Lib.hid (by have := (HW3.out W2 rfl).1; exact this)
  have HF2 : Hid (∀ o, W2.frozen? ⟨g, o, none⟩ = false) := Lib.hid fun o => hown2.frozenAt o
  have hmin : Nat.min (l0.length + 1 - j) (l0.length - j) = l0.length - j := Nat.min_eq_right (by omega)
  have hg8' : ¬ m.w.heap.size = g := fun e => hg8 e.symm
  have HFg : Hid (((fun k => k = p ∨ (Value.slice A0 l0.length cap0).ownBlock = some k) g) ∨ m.w.heap.size ≤ g) := Lib.hid (by
    rcases hat2 with h | h
    · exact .inl (.inr h)
    · exact .inr (by omega))
  clear Hnews hL3 hout hB HC x1 x2 y0 y1 y2 y3 hown1 hlt hone0 hown0 c0 c1 c2 f2 i20 hblk0
  have i3 : Old p W2 := ⟨block_lt_of_cell p2⟩
  have i4 : Old m.w.heap.size W2 := ⟨block_lt_of_cell k0⟩
  have i5 : Old g W2 := ⟨(hown2.lt g rfl).2⟩
  have s1 : IntKind.i64.wrap ((j : Int) + 1) = (j : Int) + 1 := by rw [IntKind.wrap_i64]; omega
  have s2 : (0 : Int) ≤ (j : Int) + 1 := by omega
  have s3 : ((j : Int) + 1).toNat = j + 1 := by omega
  have s4 : (j : Int) + 1 ≤ (l0.length : Int) + 1 := by omega
  have s5 : (j : Int) ≤ (l0.length : Int) + 1 := by omega
  have s6 : j ≤ l0.length + 1 := by omega
  have s7 : (l0.length : Int) + 1 ≤ (cap : Int) := by omega
  have s8 : ¬ cap = j := by omega
  have H8 : ∀ a b : Option Addr, (if cap = j then a else b) = b := fun a b => if_neg s8
  by_cases hcp : cap = j + 1
  case' pos =>
    have hif : ∀ a b : Option Addr, (if cap = j + 1 then a else b) = a := fun a b => if_pos hcp
    have HCP := Lib.hid hcp
    have HL : Hid (j = l0.length) := Lib.hid (by omega)
    clear hcp
    go_region_law (refine step_copy_cells rfl (.tmp 36) (.tmp 42) 58 58 rfl 110 i0 4 Tryz.underlying58 hi0 hz1 g 0 (l0.length - j) (cap - (j + 1)) ⟨g, j * 4, none⟩ (l0.length + 1 - j) (cap - j) rfl rfl news (by rw [hnl, hmin]) hsrc (fun q hq => by rw [hnil HL.out] at hq; simp at hq) hone ?_; generalize hw3 : World.setCells _ _ _ _ = W3; have x1 : W3.cell? ⟨p, 2, none⟩ = some (.slice (some ⟨g, 0, none⟩) (l0.length + 1) cap) := (by rw [← hw3, World.cell?_setCells_out _ _ _ _ _ (fun e => absurd e (Ne.symm hgp))]; exact p2))
    have HO3 := Lib.hid (HW3N.out (hnil HL.out))
  case' neg =>
    have hif : ∀ a b : Option Addr, (if cap = j + 1 then a else b) = b := fun a b => if_neg hcp
    clear hcp
    go_region_law (refine step_copy_cells rfl (.tmp 36) (.tmp 42) 58 58 rfl 110 i0 4 Tryz.underlying58 hi0 hz1 g ((j + 1) * 4) (l0.length - j) (cap - (j + 1)) ⟨g, j * 4, none⟩ (l0.length + 1 - j) (cap - j) rfl rfl news (by rw [hnl, hmin]) hsrc hspare hone ?_; generalize hw3 : World.setCells _ _ _ _ = W3; have x1 : W3.cell? ⟨p, 2, none⟩ = some (.slice (some ⟨g, 0, none⟩) (l0.length + 1) cap) := (by rw [← hw3, World.cell?_setCells_out _ _ _ _ _ (fun e => absurd e (Ne.symm hgp))]; exact p2))
  all_goals
    have HC3 : Chg (fun k => k = p ∨ (Value.slice A0 l0.length cap0).ownBlock = some k) m.w W3 := by
      rw [← hw3]
      refine chg_setCells ?_ g _ _ HFg.out
      repeat (with_reducible first | exact HC2 | refine chg_drew ?_ | refine chg_drewN ?_ _)
    have z0 : W3.cell? ⟨m.w.heap.size, 0, none⟩ = some (i64 x.id) := by rw [← hw3, World.cell?_setCells_out _ _ _ _ _ (fun e => absurd e hg8')]; exact k0
    have z1 : W3.cell? ⟨m.w.heap.size, 1, none⟩ = some (i64 x.fr) := by rw [← hw3, World.cell?_setCells_out _ _ _ _ _ (fun e => absurd e hg8')]; exact k1
    have z2 : W3.cell? ⟨m.w.heap.size, 2, none⟩ = some (i64 x.to) := by rw [← hw3, World.cell?_setCells_out _ _ _ _ _ (fun e => absurd e hg8')]; exact k2
    have z3 : W3.cell? ⟨m.w.heap.size, 3, none⟩ = some (.slice A x.data.length c) := by rw [← hw3, World.cell?_setCells_out _ _ _ _ _ (fun e => absurd e hg8')]; exact k3
    have ow3 : W3.ownsRow 0 110 4 (.slice (some ⟨g, 0, none⟩) (l0.length + 1) cap) (l0.length + 1) L3 := by
      rw [← hw3]
      first | (have e0 := hnil HL.out; have := HW3N.out e0 W2 rfl; rw [e0]; exact this) | exact HW3.out _ rfl
    have HO3 := Lib.hid ow3
    have HCC := Lib.hid HC3
    have hb3 : Hid (W3.heap[p]? = some (.cells #[i64 B.room, i64 B.last, .slice (some ⟨g, 0, none⟩) (l0.length + 1) cap] 67 (0, 0))) := Lib.hid (by
      have hcs : Chg (fun k => k = g) W2 W3 := by
        rw [← hw3]
        refine chg_setCells ?_ g _ _ (.inl rfl)
        repeat (with_reducible first | exact Chg.refl _ _ | refine chg_drew ?_ | refine chg_drewN ?_ _)
      rw [hcs.block p i3.lt (Ne.symm hgp)]
      exact hblk2)
    have HFIN : Hid (BagTo w p ⟨B.room, B.last, l0.insertIdx j x⟩ F (i64 0) (.returned (i64 0)) ((((W3.setCell ⟨g, j * 4, none⟩ (i64 x.id)).setCell ⟨g, j * 4 + 1, none⟩ (i64 x.fr)).setCell ⟨g, j * 4 + 2, none⟩ (i64 x.to)).setCell ⟨g, j * 4 + 3, none⟩ (.slice A x.data.length c))) := Lib.hid (by
      have o4 := own_setN (j := j * 4 + 3) (u := .slice A x.data.length c) (own_setN (j := j * 4 + 2) (u := i64 x.to) (own_setN (j := j * 4 + 1) (u := i64 x.fr) (own_setN (j := j * 4) (u := i64 x.id) ow3)))
      rw [row4 L3 _ _ _ (j * 4) _ _ _ _ HL3.out (by simp [hcells_len _ _ HR0.out.len]; omega) HM3.out] at o4
      have i21 : May g (fun k => k = p ∨ (Value.slice A0 l0.length cap0).ownBlock = some k) m.w := ⟨HFg.out⟩
      have c4 := chg_set (chg_set (chg_set (chg_set HC3 g (j * 4) (i64 x.id)) g (j * 4 + 1) (i64 x.fr)) g (j * 4 + 2) (i64 x.to)) g (j * 4 + 3) (.slice A x.data.length c)
      obtain ⟨m2, F2, e2, hb2, hF2⟩ := move_end (x := x) (v := .slice A x.data.length c) HR0.out hF0 hl3 hl1 c4 (hat2.imp id (fun h => by omega)) (by rw [heap_set_far _ _ _ _ (Ne.symm hgp), heap_set_far _ _ _ _ (Ne.symm hgp), heap_set_far _ _ _ _ (Ne.symm hgp), heap_set_far _ _ _ _ (Ne.symm hgp)]; exact hb3.out) o4 HO.out (fun k hk => (hA k hk).2) hsm
      have hm : Chg F w m.w := by
        repeat (with_reducible first | exact Chg.refl _ _ | refine chg_m ?_ _ | refine chg_g ?_ _ | refine chg_alloc ?_ _ | refine chg_drew ?_ | refine chg_drewN ?_ _ | refine chg_set ?_ _ _ _)
      have hsz := hm.size
      rw [e2]
      refine ⟨rfl, ⟨m2.w, hm.trans m2.h (fun k _ hk => hF' k hk)⟩, F2, rfl, hb2, fun k hk => ?_⟩
      rcases hF2 k hk with h | h | h
      · exact .inl (hF' k h)
      · exact .inr (by omega)
      · exact .inl (hA k h).1)
    have q0 : (W3.cell? ⟨g, j * 4, none⟩).isSome = true := by rw [ow3.cellAt _ (by omega), List.getElem?_eq_getElem (by rw [HL3l.out]; omega)]; rfl
    have q1 : (W3.cell? ⟨g, j * 4 + 1, none⟩).isSome = true := by rw [ow3.cellAt _ (by omega), List.getElem?_eq_getElem (by rw [HL3l.out]; omega)]; rfl
    have q2 : (W3.cell? ⟨g, j * 4 + 2, none⟩).isSome = true := by rw [ow3.cellAt _ (by omega), List.getElem?_eq_getElem (by rw [HL3l.out]; omega)]; rfl
    have q3 : (W3.cell? ⟨g, j * 4 + 3, none⟩).isSome = true := by rw [ow3.cellAt _ (by omega), List.getElem?_eq_getElem (by rw [HL3l.out]; omega)]; rfl
    obtain ⟨u0, q0⟩ := Option.isSome_iff_exists.1 q0
    obtain ⟨u1, q1⟩ := Option.isSome_iff_exists.1 q1
    obtain ⟨u2, q2⟩ := Option.isSome_iff_exists.1 q2
    obtain ⟨u3, q3⟩ := Option.isSome_iff_exists.1 q3
    have r0 : W3.frozen? ⟨g, j * 4, none⟩ = false := ow3.frozenAt _
    have r1 : W3.frozen? ⟨g, j * 4 + 1, none⟩ = false := ow3.frozenAt _
    have r2 : W3.frozen? ⟨g, j * 4 + 2, none⟩ = false := ow3.frozenAt _
    have r3 : W3.frozen? ⟨g, j * 4 + 3, none⟩ = false := ow3.frozenAt _
    clear hw3 ow3 HC3 hown2 hblk2 HC2 k0 k1 k2 k3 p2 hsrc hnl hone hspare hnil i3 i4 i5 s1 s2 s3 hnp
    have s9 : (j : Int) < (l0.length : Int) + 1 := by omega
    go_wp2
    go_region
  all_goals
    go_wp2
    go_ret
    exact HFIN.out.grow (by
      repeat (with_reducible first | exact Chg.refl _ _ | refine chg_m ?_ _ | refine chg_g ?_ _ | refine chg_alloc ?_ _ | refine chg_drew ?_ | refine chg_drewN ?_ _ | refine chg_set ?_ _ _ _))

theorem spoil_any (p : Nat) (B : BagS) (F : Nat → Prop) (i a b : Int) (w : World) (hB : IsBag w p B F) (hat : -9223372036854775808 ≤ a ∧ a ≤ 9223372036854775807) :
    Calls Tryz.prog 92 #[.pointer (some ⟨p, 0, none⟩), i64 i, i64 a, i64 b] w (BagTo w p (spoilS B i a b).1 F (i64 (spoilS B i a b).2)) := by
  rcases (show (i < 0 ∨ (B.l.length : Int) ≤ i) ∨ (0 ≤ i ∧ i < (B.l.length : Int)) from by omega) with h | ⟨h0, h1⟩
  · have ed : spoilS B i a b = (B, 91) := by
      unfold spoilS
      split
      · rfl
      · rw [List.getElem?_eq_none (by omega)]
    rw [ed]
    exact (spoil_bad p B F i a b w hB h).mono fun _ _ g => BagTo.same g hB
  · obtain ⟨i, rfl⟩ := Int.eq_ofNat_of_zero_le h0
    have hi : i < B.l.length := by omega
    exact spoil_good p i B F a b w hB _ (List.getElem?_eq_getElem hi) hat
theorem move_any (p : Nat) (B : BagS) (F : Nat → Prop) (i j : Int) (w : World) (hB : IsBag w p B F) :
    Calls Tryz.prog 90 #[.pointer (some ⟨p, 0, none⟩), i64 i, i64 j] w (BagTo w p (moveS B i j).1 F (i64 (moveS B i j).2)) := by
  by_cases h : askedF B.l.length [i, j] = 91
  · simp only [moveS, if_pos h]
    exact (move_bad p B F i j w hB h).mono fun _ _ g => BagTo.same g hB
  · have hh : (0 ≤ i ∧ i < (B.l.length : Int)) ∧ 0 ≤ j ∧ j < (B.l.length : Int) := by
      simp only [askedF] at h
      split at h
      · simp at h
      · split at h
        · simp at h
        · omega
    obtain ⟨⟨h0, h1⟩, h2, h3⟩ := hh
    obtain ⟨i, rfl⟩ := Int.eq_ofNat_of_zero_le h0
    obtain ⟨j, rfl⟩ := Int.eq_ofNat_of_zero_le h2
    have hi : i < B.l.length := by omega
    have hx : B.l[i]? = some B.l[i] := List.getElem?_eq_getElem hi
    simp only [moveS, if_neg h, Int.toNat_natCast, hx]
    exact move_good p i j B F w hB _ hx (by omega)
end Go.Proofs.YteemkceceaabkaaGreat
