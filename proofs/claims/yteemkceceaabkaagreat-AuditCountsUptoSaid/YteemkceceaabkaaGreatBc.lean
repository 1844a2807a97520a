/- The walk of out. -/
import Derived.Test.YteemkceceaabkaaGreatBb
set_option linter.unusedSimpArgs false
set_option linter.unusedVariables false
namespace Go.Proofs.YteemkceceaabkaaGreat
open Go.RowKit Go.Ear
set_option maxHeartbeats 1000000
set_option maxRecDepth 20000

/-- The cells of one datagram in the bag's list. -/
theorem gram_cells {w : World} {base g cap i : Nat} {l : List Gm} {vs : List Value} {x : Gm} {v : Value} (h : w.ownsRow base 110 4 (.slice (some ⟨g, 0, none⟩) l.length cap) l.length (flat l vs)) (hl : vs.length = l.length) (hx : l[i]? = some x) (hv : vs[i]? = some v) :
    w.cell? ⟨g, i * 4, none⟩ = some (i64 x.id) ∧ w.cell? ⟨g, i * 4 + 1, none⟩ = some (i64 x.fr) ∧ w.cell? ⟨g, i * 4 + 2, none⟩ = some (i64 x.to) ∧ w.cell? ⟨g, i * 4 + 3, none⟩ = some v := by
  have hi : i < l.length := (List.getElem?_eq_some_iff.1 hx).1
  have e := flat_split l vs i x v hl hx hv
  have e1 : (flat (l.take i) (vs.take i)).length = i * 4 := by rw [hcells_len _ _ (by simp [hl])]; simp; omega
  have e2 : ∀ j, j < 4 → (flat l vs)[i * 4 + j]? = (hcells (x, v))[j]? := fun j hj => by
    rw [e, List.getElem?_append_right (by omega), e1, List.getElem?_append_left (by simp [hcells]; omega)]
    congr 1
    omega
  have e3 : ∀ j, j < 4 → w.cell? ⟨g, i * 4 + j, none⟩ = (hcells (x, v))[j]? := fun j hj => (h.cellAt _ (by omega)).trans (e2 j hj)
  exact ⟨e3 0 (by omega), e3 1 (by omega), e3 2 (by omega), e3 3 (by omega)⟩

theorem flat_erase (l : List Gm) (vs : List Value) (i : Nat) (g : Gm) (v : Value) (h : vs.length = l.length) (hg : l[i]? = some g) (hv : vs[i]? = some v) :
    flat (l.eraseIdx i) (vs.eraseIdx i) = (flat l vs).take (i * 4) ++ (flat l vs).drop ((i + 1) * 4) := by
  have hi : i < l.length := (List.getElem?_eq_some_iff.1 hg).1
  have e1 : (flat (l.take i) (vs.take i)).length = i * 4 := by rw [hcells_len _ _ (by simp [h])]; simp; omega
  have e2 : flat (l.eraseIdx i) (vs.eraseIdx i) = flat (l.take i) (vs.take i) ++ flat (l.drop (i + 1)) (vs.drop (i + 1)) := by
    unfold flat
    rw [List.eraseIdx_eq_take_drop_succ, List.eraseIdx_eq_take_drop_succ, List.zip_append (by simp [h]), List.flatMap_append]
  have e3 := flat_split l vs i g v h hg hv
  rw [e2, e3]
  generalize flat (l.take i) (vs.take i) = T at *
  generalize flat (l.drop (i + 1)) (vs.drop (i + 1)) = D at *
  have e4 : (hcells (g, v)).length = 4 := rfl
  generalize hcells (g, v) = M at *
  have e5 : (T ++ (M ++ D)).take (i * 4) = T := by rw [← e1, List.take_left]
  have e6 : (T ++ (M ++ D)).drop ((i + 1) * 4) = D := by
    rw [show (i + 1) * 4 = (T ++ M).length from by rw [List.length_append, e1, e4]; omega, ← List.append_assoc, List.drop_left]
  rw [e5, e6]

theorem erase_idx {α : Type} {l : List α} {i j : Nat} {x : α} (h : (l.eraseIdx i)[j]? = some x) : l[if j < i then j else j + 1]? = some x := by
  rw [List.getElem?_eraseIdx] at h
  split at h
  · rw [if_pos (by assumption)]; exact h
  · rw [if_neg (by assumption)]; exact h

/-- A bag off whose list one datagram has been taken. -/
theorem out_end {w W : World} {p g cap i : Nat} {B : BagS} {F : Nat → Prop} {v : Value} {vs : List Value} {x : Gm} (hr : BagRep w p B (.slice (some ⟨g, 0, none⟩) B.l.length cap) vs) (hF : ∀ k, F k ↔ foot p (.slice (some ⟨g, 0, none⟩) B.l.length cap) vs k)
    (hC : Chg Noth w W) (hx : B.l[i]? = some x) (hv : vs[i]? = some v) (hcap : B.l.length ≤ cap) (news : List Value) (hn : news = (flat B.l vs).drop ((i + 1) * 4)) (n' : Nat) (hn' : n' = B.l.length - 1) (o : Nat) (ho : o = i * 4) :
    ∃ (m : Muts F w) (F' : Nat → Prop), (W.setCells g o news).setCell ⟨p, 2, none⟩ (.slice (some ⟨g, 0, none⟩) n' cap) = m.w ∧ IsBag m.w p { B with l := B.l.eraseIdx i } F' ∧ (∀ k, F' k → F k) ∧
      (∀ k, v.ownBlock = some k → F k ∧ ¬ F' k) ∧ m.w.ownsRow 0 5 1 v x.data.length (bv x.data) := by
  have hi : i < B.l.length := (List.getElem?_eq_some_iff.1 hx).1
  have hgsp := own_ne hr.own hr.blk (by decide)
  have hgp : g ≠ p := hgsp g rfl
  have hrW : BagRep W p B (.slice (some ⟨g, 0, none⟩) B.l.length cap) vs := hr.chg hC (fun _ _ e => e)
  have hnl : news.length = (B.l.length - (i + 1)) * 4 := by rw [hn, List.length_drop, hcells_len _ _ hr.len]; omega
  have hown := own_setCells (q := B.l.length - (i + 1)) (m := i) (o := i * 4) hrW.own rfl (by omega) hnl (by omega)
  have he : i + (B.l.length - (i + 1)) = B.l.length - 1 := by omega
  rw [he, hn, ← flat_erase B.l vs i x v hr.len hx hv, ← hn, ← ho, ← hn'] at hown
  have hc1 : Chg (fun k => k = p ∨ k = g) w (W.setCells g o news) := chg_setCells (hC.mono (fun _ _ e => e.elim)) g _ _ (.inl (.inr rfl))
  have i9 : May p (fun k => k = p ∨ k = g) w := ⟨.inl (.inl rfl)⟩
  have hcA := chg_set hc1 p 2 (.slice (some ⟨g, 0, none⟩) n' cap)
  have hc2 : Chg (fun k => k = p) (W.setCells g o news) ((W.setCells g o news).setCell ⟨p, 2, none⟩ (.slice (some ⟨g, 0, none⟩) n' cap)) := chg_set (Chg.refl _ _) p 2 _
  have hblk1 : (W.setCells g o news).heap[p]? = some (.cells #[i64 B.room, i64 B.last, .slice (some ⟨g, 0, none⟩) B.l.length cap] 67 (0, 0)) := by
    have : Chg (fun k => k = g) W (W.setCells g o news) := chg_setCells (Chg.refl _ _) g _ _ (.inl rfl)
    rw [this.block p hrW.plt (Ne.symm hgp)]
    exact hrW.blk
  have hdata0 : ∀ (i : Nat) (x : Gm) (u : Value), B.l[i]? = some x → vs[i]? = some u → ∀ k, u.ownBlock = some k → ¬ (k = p ∨ k = g) := by
    intro i x u hx hu k hk
    have hd := hr.data i x u hx hu
    rintro (e | e)
    · exact own_ne hd hr.blk (by decide) k hk e
    · subst e; exact own_own hd hr.own (by decide) k hk rfl
  have hlen' : (B.l.eraseIdx i).length = n' := by rw [List.length_eraseIdx, if_pos hi, hn']
  have hmem : ∀ u, u ∈ vs.eraseIdx i → u ∈ vs := fun u hu => List.mem_of_mem_eraseIdx hu
  refine ⟨⟨_, hcA.mono fun k hk e => ?_⟩, foot p (.slice (some ⟨g, 0, none⟩) n' cap) (vs.eraseIdx i), rfl, ⟨_, vs.eraseIdx i, ?_, fun _ => Iff.rfl⟩, ?_, ?_, ?_⟩
  · exact (hF k).2 (e.elim Or.inl (fun e => Or.inr (Or.inl (by subst e; rfl))))
  · refine ⟨heap_setCell_same _ p 2 _ _ _ hblk1, ?_, ?_, ?_, ?_, ?_, hr.lasts, ?_⟩
    · rw [hlen']
      exact own_chg hown hc2 (fun k hk => by simp [Value.ownBlock] at hk; omega)
    · rw [hlen', List.length_eraseIdx, if_pos (by rw [hr.len]; exact hi), hr.len, hn']
    · intro j y u hy hu
      exact own_chg (hr.data _ y u (erase_idx hy) (erase_idx hu)) hcA (hdata0 _ y u (erase_idx hy) (erase_idx hu))
    · intro j j' u u' k hj hj' hk hk'
      have := hr.apart _ _ u u' k (erase_idx hj) (erase_idx hj') hk hk'
      split at this <;> split at this <;> omega
    · have := hr.fits
      refine ⟨?_, this.2⟩
      show ((B.l.eraseIdx i).length : Int) ≤ B.room
      rw [hlen']
      omega
    · intro y hy
      exact hr.small y (List.mem_of_mem_eraseIdx hy)
  · rintro k (rfl | h | ⟨u, hu, hk⟩)
    · exact (hF k).2 (.inl rfl)
    · exact (hF k).2 (.inr (.inl h))
    · exact (hF k).2 (.inr (.inr ⟨u, hmem u hu, hk⟩))
  · intro k hk
    refine ⟨(hF k).2 (.inr (.inr ⟨v, List.mem_of_getElem? hv, hk⟩)), ?_⟩
    rintro (rfl | h | ⟨u, hu, hk'⟩)
    · exact hdata0 i x v hx hv k hk (.inl rfl)
    · simp [Value.ownBlock] at h
      exact hdata0 i x v hx hv k hk (.inr h.symm)
    · obtain ⟨j, hj⟩ := List.mem_iff_getElem?.1 hu
      have := hr.apart _ _ u v k (erase_idx hj) hv hk' hk
      split at this <;> omega
  · exact own_chg (hr.data i x v hx hv) hcA (hdata0 i x v hx hv)

theorem flat_one (l : List Gm) (vs : List Value) (h : ∀ v ∈ vs, v.oneCell' = true) : ∀ u ∈ flat l vs, u.oneCell' = true := by
  intro u hu
  simp only [flat, List.mem_flatMap] at hu
  obtain ⟨x, hx, hu⟩ := hu
  have := (List.of_mem_zip hx).2
  simp [hcells] at hu
  rcases hu with rfl | rfl | rfl | rfl
  · rfl
  · rfl
  · rfl
  · exact h _ this
theorem BagRep.data' {w : World} {p : Nat} {B : BagS} {gs : Value} {vs : List Value} (h : BagRep w p B gs vs) : ∀ v ∈ vs, v.oneCell' = true := by
  intro v hv
  obtain ⟨i, hi⟩ := List.mem_iff_getElem?.1 hv
  have hl : i < B.l.length := by have := (List.getElem?_eq_some_iff.1 hi).1; have := h.len; omega
  obtain ⟨A, c, rfl⟩ := own_shape (h.data i _ v (List.getElem?_eq_getElem hl) hi)
  rfl
theorem out_any (p i : Nat) (B : BagS) (F : Nat → Prop) (w : World) (h : IsBag w p B F) (x : Gm) (hx : B.l[i]? = some x) :
    Calls Tryz.prog 128 #[.pointer (some ⟨p, 0, none⟩), i64 i] w fun e w' => ∃ A c, e = .returned (gv x.id x.fr x.to (.slice A x.data.length c)) ∧ w'.ownsRow 0 5 1 (.slice A x.data.length c) x.data.length (bv x.data) ∧
      ∃ (m : Muts F w) (F' : Nat → Prop), w' = m.w ∧ IsBag m.w p { B with l := B.l.eraseIdx i } F' ∧ (∀ k, F' k → F k) ∧ ∀ k, (Value.slice A x.data.length c).ownBlock = some k → F k ∧ ¬ F' k := by
  obtain ⟨gs, vs, hr, hF⟩ := h
  obtain ⟨c0, c1, c2, f0⟩ := hr.cells
  obtain ⟨b1, b2⟩ := hr.fits
  have i1 : Old p w := ⟨hr.plt⟩
  have f2 := f0 2
  clear f0
  have hi : i < B.l.length := (List.getElem?_eq_some_iff.1 hx).1
  have hv : vs[i]? = some (vs[i]'(by rw [hr.len]; exact hi)) := List.getElem?_eq_getElem _
  generalize vs[i]'(by rw [hr.len]; exact hi) = v at hv
  have hd := hr.data i x v hx hv
  obtain ⟨A, c, rfl⟩ := own_shape hd
  have hown := hr.own
  obtain ⟨g, cap, rfl, _, hg⟩ := hown.form (by omega)
  have i2 : Old g w := ⟨hg⟩
  obtain ⟨a0, a1, a2, a3⟩ := gram_cells hown hr.len hx hv
  have hcap : B.l.length ≤ cap := by
    rcases hown.2 with ⟨h', _⟩ | ⟨g', cap', cur, h', _, _, hnc, _⟩
    · simp at h'
    · simp only [Value.slice.injEq, Option.some.injEq, Addr.mk.injEq, and_true, true_and] at h'
      omega
  go_enter Tryz.func128, Tryz.ntmps128
  go_wp2
  generalize hW : (w.alloc (Obj.cells #[Value.int IntKind.i64 0, Value.int IntKind.i64 0, Value.int IntKind.i64 0, Value.slice none 0 0] 110)).alloc (Obj.cells #[Value.int IntKind.i64 x.id, Value.int IntKind.i64 x.fr, Value.int IntKind.i64 x.to, Value.slice A x.data.length c] 110) = W
  have hC : Chg Noth w W := by
    rw [← hW]
    repeat (with_reducible first | exact Chg.refl _ _ | refine chg_m ?_ _ | refine chg_g ?_ _ | refine chg_alloc ?_ _ | refine chg_drew ?_ | refine chg_drewN ?_ _ | refine chg_set ?_ _ _ _)
  have p2 : W.cell? ⟨p, 2, none⟩ = some (.slice (some ⟨g, 0, none⟩) B.l.length cap) := by rw [← hW]; simp [go_sem, c2]
  have q2 : W.frozen? ⟨p, 2, none⟩ = false := by rw [← hW]; simp [go_sem, f2]
  have k0 : W.cell? ⟨w.heap.size + 1, 0, none⟩ = some (i64 x.id) := by rw [← hW]; simp [go_sem]
  have k1 : W.cell? ⟨w.heap.size + 1, 1, none⟩ = some (i64 x.fr) := by rw [← hW]; simp [go_sem]
  have k2 : W.cell? ⟨w.heap.size + 1, 2, none⟩ = some (i64 x.to) := by rw [← hW]; simp [go_sem]
  have k3 : W.cell? ⟨w.heap.size + 1, 3, none⟩ = some (.slice A x.data.length c) := by rw [← hW]; simp [go_sem]
  have r0 : W.cell? ⟨w.heap.size, 0, none⟩ = some (i64 0) := by rw [← hW]; simp [go_sem]
  have r1 : W.cell? ⟨w.heap.size, 1, none⟩ = some (i64 0) := by rw [← hW]; simp [go_sem]
  have r2 : W.cell? ⟨w.heap.size, 2, none⟩ = some (i64 0) := by rw [← hW]; simp [go_sem]
  have r3 : W.cell? ⟨w.heap.size, 3, none⟩ = some (.slice none 0 0) := by rw [← hW]; simp [go_sem]
  have rf : ∀ o, W.frozen? ⟨w.heap.size, o, none⟩ = false := fun o => by rw [← hW]; simp [go_sem]
  have RF := Lib.hid rf
  clear rf
  have hrW : BagRep W p B _ vs := hr.chg hC (fun _ _ e => e)
  have i3 : Old p W := ⟨hrW.plt⟩
  have i4 : Old g W := ⟨(hrW.own.lt g rfl).2⟩
  clear hW c0 c1 c2 f2 a0 a1 a2 a3
  have s1 : IntKind.i64.wrap (↑i + 1) = ↑i + 1 := by rw [IntKind.wrap_i64]; omega
  have s2 : (0 : Int) ≤ ↑i + 1 := by omega
  have s3 : ((i : Int) + 1).toNat = i + 1 := by omega
  have s4 : (i : Int) + 1 ≤ (B.l.length : Int) := by omega
  have s5 : (i : Int) ≤ (cap : Int) := by omega
  have s6 : i ≤ cap := by omega
  have s7 : i + 1 ≤ cap := by omega
  have s8 : (B.l.length : Int) ≤ (cap : Int) := by omega
  have s9 : (i : Int) + 1 ≤ (cap : Int) := by omega
  obtain ⟨i0, hi0, hz0, hz1, hz2⟩ := info_parts info35
  have hownW := hrW.own
  have hnp := own_ne hownW hrW.blk (by decide)
  have hgp : g ≠ p := hnp g rfl
  have hnews : ∀ j u, ((flat B.l vs).drop ((i + 1) * 4))[j]? = some u → W.cell? ((⟨g, (i + 1) * 4, none⟩ : Addr).add j) = some u := by
    intro j u hu
    rw [List.getElem?_drop] at hu
    have hj : (i + 1) * 4 + j < (flat B.l vs).length := (List.getElem?_eq_some_iff.1 hu).1
    rw [hcells_len _ _ hr.len] at hj
    rw [Go.WideShapes.add_plain, hownW.cellAt _ hj]
    exact hu
  have hnl : ((flat B.l vs).drop ((i + 1) * 4)).length = (B.l.length - (i + 1)) * 4 := by rw [List.length_drop, hcells_len _ _ hr.len]; omega
  have hone : ∀ u ∈ (flat B.l vs).drop ((i + 1) * 4), u.oneCell' = true := fun u hu => flat_one B.l vs hr.data' u (List.mem_of_mem_drop hu)
  have hspare : ∀ j, j < ((flat B.l vs).drop ((i + 1) * 4)).length → (W.cell? ⟨g, 0 + i * 4 + j, none⟩).isSome = true ∧ W.frozen? ⟨g, 0 + i * 4 + j, none⟩ = false := by
    intro j hj
    rw [hnl] at hj
    have hj' : 0 + i * 4 + j < B.l.length * 4 := by omega
    rw [hownW.cellAt _ hj', List.getElem?_eq_getElem (by rw [hcells_len _ _ hr.len]; exact hj')]
    exact ⟨rfl, hownW.frozenAt _⟩
  have hpos : ¬ g = p := hgp
  have hnil : i + 1 = B.l.length → (flat B.l vs).drop ((i + 1) * 4) = [] := fun e => List.eq_nil_of_length_eq_zero (by rw [hnl, e]; simp)
  have hdat : True := trivial
  have HFL : Hid (∀ k, F k → k < w.heap.size) := Lib.hid fun k hk => hr.lt ((hF k).1 hk)
  have HD := Lib.hid hd
  have hwg0 : ¬ (w.heap.size = g) := by omega
  have hwg : ¬ (w.heap.size + 1 = g) := by omega
  have HN : ∃ nw, nw = (flat B.l vs).drop ((i + 1) * 4) := ⟨_, rfl⟩
  obtain ⟨news, HN⟩ := HN
  rw [← HN] at hnews hnl hone hspare hnil
  have HNN := Lib.hid HN
  clear HN
  by_cases hcp : cap = i + 1
  case' pos =>
    have hlast : i + 1 = B.l.length := by omega
    have hif : ∀ a b : Option Addr, (if cap = i + 1 then a else b) = a := fun a b => if_pos hcp
    have HCP := Lib.hid hcp
    have HL := Lib.hid hlast
    clear hcp hlast
    go_region_law (refine step_append_room rfl (.tmp 19) (.tmp 26) 58 rfl 110 i0 4 Tryz.underlying58 hi0 hz1 g 0 i cap rfl ⟨g, 0, none⟩ (B.l.length - (i + 1)) (cap - (i + 1)) news rfl hnl (fun j u hu => by rw [hnil HL.out] at hu; simp at hu) hone (by omega) hspare ?_; generalize hw2 : World.setCells _ _ _ _ = W2; have x1 : W2.cell? ⟨p, 2, none⟩ = some (.slice (some ⟨g, 0, none⟩) B.l.length cap) := (by rw [← hw2, World.cell?_setCells_out _ _ _ _ _ (fun e => absurd e (Ne.symm hgp))]; exact p2); have x2 : W2.frozen? ⟨p, 2, none⟩ = false := (by rw [← hw2, World.frozen?_setCells]; exact q2))
  case' neg =>
    go_region_law (refine step_append_room rfl (.tmp 19) (.tmp 26) 58 rfl 110 i0 4 Tryz.underlying58 hi0 hz1 g 0 i cap rfl ⟨g, (i + 1) * 4, none⟩ (B.l.length - (i + 1)) (cap - (i + 1)) news rfl hnl hnews hone (by omega) hspare ?_; generalize hw2 : World.setCells _ _ _ _ = W2; have x1 : W2.cell? ⟨p, 2, none⟩ = some (.slice (some ⟨g, 0, none⟩) B.l.length cap) := (by rw [← hw2, World.cell?_setCells_out _ _ _ _ _ (fun e => absurd e (Ne.symm hgp))]; exact p2); have x2 : W2.frozen? ⟨p, 2, none⟩ = false := (by rw [← hw2, World.frozen?_setCells]; exact q2))
  all_goals
    have y0 : W2.cell? ⟨w.heap.size + 1, 0, none⟩ = some (i64 x.id) := by rw [← hw2, World.cell?_setCells_out _ _ _ _ _ (fun e => absurd e hwg)]; exact k0
    have y1 : W2.cell? ⟨w.heap.size + 1, 1, none⟩ = some (i64 x.fr) := by rw [← hw2, World.cell?_setCells_out _ _ _ _ _ (fun e => absurd e hwg)]; exact k1
    have y2 : W2.cell? ⟨w.heap.size + 1, 2, none⟩ = some (i64 x.to) := by rw [← hw2, World.cell?_setCells_out _ _ _ _ _ (fun e => absurd e hwg)]; exact k2
    have y3 : W2.cell? ⟨w.heap.size + 1, 3, none⟩ = some (.slice A x.data.length c) := by rw [← hw2, World.cell?_setCells_out _ _ _ _ _ (fun e => absurd e hwg)]; exact k3
    have z0 : W2.cell? ⟨w.heap.size, 0, none⟩ = some (i64 0) := by rw [← hw2, World.cell?_setCells_out _ _ _ _ _ (fun e => absurd e hwg0)]; exact r0
    have z1 : W2.cell? ⟨w.heap.size, 1, none⟩ = some (i64 0) := by rw [← hw2, World.cell?_setCells_out _ _ _ _ _ (fun e => absurd e hwg0)]; exact r1
    have z2 : W2.cell? ⟨w.heap.size, 2, none⟩ = some (i64 0) := by rw [← hw2, World.cell?_setCells_out _ _ _ _ _ (fun e => absurd e hwg0)]; exact r2
    have z3 : W2.cell? ⟨w.heap.size, 3, none⟩ = some (.slice none 0 0) := by rw [← hw2, World.cell?_setCells_out _ _ _ _ _ (fun e => absurd e hwg0)]; exact r3
    have zf : ∀ o, W2.frozen? ⟨w.heap.size, o, none⟩ = false := fun o => by rw [← hw2, World.frozen?_setCells]; exact RF.out o
    have HW := out_end (g := g) (n' := i + (B.l.length - (i + 1))) (o := 0 + i * 4) hr hF (show Chg Noth w W.drew from chg_drew hC) hx hv hcap news HNN.out (by omega) (by omega)
    rw [hw2] at HW
    have H := Lib.hid HW
    clear HW hw2 hnews hnl hone hspare hnil hr hF hd hown hrW hownW hnp hwg hwg0 r0 r1 r2 r3 hgp hpos x1 x2 s1 s2 s3 s4 s5 s6 s7 s8 s9 k0 k1 k2 k3 p2 q2 hx hv hC
    go_wp2
    obtain ⟨m, F', e1, e2, e3, e4, e5⟩ := H.out
    have hFlt : ∀ k, F' k → k ≠ w.heap.size := fun k hk e => by have := HFL.out k (e3 k hk); omega
    have hAlt : ∀ k, (Value.slice A x.data.length c).ownBlock = some k → k ≠ w.heap.size := fun k hk e => by have := (HD.out.lt k hk).2; omega
    have i10 : HasCell W2 w.heap.size 0 := ⟨by rw [z0]; rfl⟩
    have i11 : HasCell W2 w.heap.size 1 := ⟨by rw [z1]; rfl⟩
    have i12 : HasCell W2 w.heap.size 2 := ⟨by rw [z2]; rfl⟩
    have i13 : HasCell W2 w.heap.size 3 := ⟨by rw [z3]; rfl⟩
    refine bodyPost_ret (v := gv x.id x.fr x.to (.slice A x.data.length c)) (by simp [results, Tryz.results128, go_sem]) rfl ⟨A, c, rfl, ?_⟩
    rw [e1]
    have hcf := chg_set (F := fun k => k = w.heap.size) (chg_set (chg_set (chg_set (Chg.refl _ m.w) w.heap.size 0 (i64 x.id)) w.heap.size 1 (i64 x.fr)) w.heap.size 2 (i64 x.to)) w.heap.size 3 (.slice A x.data.length c)
    exact ⟨own_chg e5 hcf hAlt, ⟨_, m.h.trans hcf (fun i hi e => by omega)⟩, F', rfl, e2.chg hcf hFlt, e3, e4⟩
end Go.Proofs.YteemkceceaabkaaGreat
/- Take, At, Double, Send. -/
namespace Go.Proofs.YteemkceceaabkaaGreat
open Go.RowKit Go.Ear
set_option maxHeartbeats 1000000
set_option maxRecDepth 20000

theorem asked_bad {n : Nat} {i : Int} (h : i < 0 ∨ (n : Int) ≤ i) : askedF n [i] = 91 := by simp [askedF, h]
theorem asked_good {n i : Nat} (h : i < n) : askedF n [(i : Int)] = 0 := by simp [askedF]; omega

theorem take_bad (p : Nat) (B : BagS) (F : Nat → Prop) (i : Int) (w : World) (hB : IsBag w p B F) (h : i < 0 ∨ (B.l.length : Int) ≤ i) :
    Calls Tryz.prog 86 #[.pointer (some ⟨p, 0, none⟩), i64 i] w (Gr (.tuple #[gv 0 0 0 (.slice none 0 0), i64 91]) w) := by
  have ha := asked_bad h
  go_enter Tryz.func86, Tryz.ntmps86
  go_wp2_with (go_at_call 124; refine (asked_one p B F _ _ i _ (hB.grow (by repeat (with_reducible first | exact Chg.refl _ _ | refine chg_m ?_ _ | refine chg_g ?_ _ | refine chg_alloc ?_ _ | refine chg_drew ?_ | refine chg_drewN ?_ _ | refine chg_set ?_ _ _ _))) (by simp [go_sem]) (Old.lt (b := w.heap.size + 1))).mono ?_; rintro e w' ⟨rfl, g1, rfl⟩)
  exact bodyPost_ret (v := .tuple #[gv 0 0 0 (.slice none 0 0), i64 91]) (by simp [results, Tryz.results86, go_sem]) rfl (gr_mk rfl (by
    repeat (with_reducible first | exact Chg.refl _ _ | refine chg_m ?_ _ | refine chg_g ?_ _ | refine chg_alloc ?_ _ | refine chg_drew ?_ | refine chg_drewN ?_ _ | refine chg_set ?_ _ _ _)))
theorem at_bad (p : Nat) (B : BagS) (F : Nat → Prop) (i : Int) (w : World) (hB : IsBag w p B F) (h : i < 0 ∨ (B.l.length : Int) ≤ i) :
    Calls Tryz.prog 78 #[.pointer (some ⟨p, 0, none⟩), i64 i] w (Gr (.tuple #[gv 0 0 0 (.slice none 0 0), i64 91]) w) := by
  have ha := asked_bad h
  go_enter Tryz.func78, Tryz.ntmps78
  go_wp2_with (go_at_call 124; refine (asked_one p B F _ _ i _ (hB.grow (by repeat (with_reducible first | exact Chg.refl _ _ | refine chg_m ?_ _ | refine chg_g ?_ _ | refine chg_alloc ?_ _ | refine chg_drew ?_ | refine chg_drewN ?_ _ | refine chg_set ?_ _ _ _))) (by simp [go_sem]) (Old.lt (b := w.heap.size + 1))).mono ?_; rintro e w' ⟨rfl, g1, rfl⟩)
  exact bodyPost_ret (v := .tuple #[gv 0 0 0 (.slice none 0 0), i64 91]) (by simp [results, Tryz.results78, go_sem]) rfl (gr_mk rfl (by
    repeat (with_reducible first | exact Chg.refl _ _ | refine chg_m ?_ _ | refine chg_g ?_ _ | refine chg_alloc ?_ _ | refine chg_drew ?_ | refine chg_drewN ?_ _ | refine chg_set ?_ _ _ _)))
theorem take_good (p i : Nat) (B : BagS) (F : Nat → Prop) (w : World) (hB : IsBag w p B F) (x : Gm) (hx : B.l[i]? = some x) :
    Calls Tryz.prog 86 #[.pointer (some ⟨p, 0, none⟩), i64 i] w fun e w' => ∃ A c, e = .returned (.tuple #[gv x.id x.fr x.to (.slice A x.data.length c), i64 0]) ∧ w'.ownsRow 0 5 1 (.slice A x.data.length c) x.data.length (bv x.data) ∧
      ∃ (m : Muts F w) (F' : Nat → Prop), w' = m.w ∧ IsBag m.w p { B with l := B.l.eraseIdx i } F' ∧ (∀ k, F' k → F k) ∧ ∀ k, (Value.slice A x.data.length c).ownBlock = some k → F k ∧ ¬ F' k := by
  have ha := asked_good (List.getElem?_eq_some_iff.1 hx).1
  have hout := out_any p i B F
  have hFL : ∀ k, F k → k < w.heap.size := fun k hk => hB.lt hk
  have i9 : Foot F w := ⟨hFL⟩
  go_enter Tryz.func86, Tryz.ntmps86
  go_wp2_with (go_at_call 124; refine (asked_one p B F _ _ (i : Int) _ (hB.grow (by repeat (with_reducible first | exact Chg.refl _ _ | refine chg_m ?_ _ | refine chg_g ?_ _ | refine chg_alloc ?_ _ | refine chg_drew ?_ | refine chg_drewN ?_ _ | refine chg_set ?_ _ _ _))) (by simp [go_sem]) (Old.lt (b := w.heap.size + 1))).mono ?_; rintro e w' ⟨rfl, g1, rfl⟩)
  refine (hout _ (hB.grow (by repeat (with_reducible first | exact Chg.refl _ _ | refine chg_m ?_ _ | refine chg_g ?_ _ | refine chg_alloc ?_ _ | refine chg_drew ?_ | refine chg_drewN ?_ _ | refine chg_set ?_ _ _ _))) x hx).mono ?_
  rintro e w' ⟨A, c, rfl, ho, m, F', rfl, hB', hF', hA⟩
  have hne : ∀ k, F' k → k ≠ w.heap.size := fun k hk e => by have := hFL k (hF' k hk); omega
  have hne2 : ∀ k, (Value.slice A x.data.length c).ownBlock = some k → k ≠ w.heap.size := fun k hk e => by have := hFL k (hA k hk).1; omega
  have HX : ∀ Wf, Chg F w Wf → Chg (fun k => k = w.heap.size) m.w Wf → Wf.ownsRow 0 5 1 (.slice A x.data.length c) x.data.length (bv x.data) ∧ ∃ (m : Muts F w) (F' : Nat → Prop), Wf = m.w ∧ IsBag m.w p { B with l := B.l.eraseIdx i } F' ∧ (∀ k, F' k → F k) ∧
      ∀ k, (Value.slice A x.data.length c).ownBlock = some k → F k ∧ ¬ F' k := fun Wf h0 hc => ⟨own_chg ho hc hne2, ⟨Wf, h0⟩, F', rfl, hB'.chg hc hne, hF', hA⟩
  clear ho hB'
  go_wp2_with fail
  exact bodyPost_ret (v := .tuple #[gv x.id x.fr x.to (.slice A x.data.length c), i64 0]) (by simp [results, Tryz.results86, go_sem]) rfl ⟨A, c, rfl, HX _ (by
    repeat (with_reducible first | exact Chg.refl _ _ | refine chg_m ?_ _ | refine chg_g ?_ _ | refine chg_alloc ?_ _ | refine chg_drew ?_ | refine chg_drewN ?_ _ | refine chg_set ?_ _ _ _)) (by
    repeat (with_reducible first | exact Chg.refl _ _ | refine chg_m ?_ _ | refine chg_g ?_ _ | refine chg_alloc ?_ _ | refine chg_drew ?_ | refine chg_drewN ?_ _ | refine chg_set ?_ _ _ _))⟩

theorem at_good (p i : Nat) (B : BagS) (F : Nat → Prop) (w : World) (hB : IsBag w p B F) (x : Gm) (hx : B.l[i]? = some x) :
    Calls Tryz.prog 78 #[.pointer (some ⟨p, 0, none⟩), i64 i] w fun e w' => ∃ A c, e = .returned (.tuple #[gv x.id x.fr x.to (.slice A x.data.length c), i64 0]) ∧ Own1 w' w.heap.size (.slice A x.data.length c) x.data ∧ ∃ g : Grows w, w' = g.w := by
  have ha := asked_good (List.getElem?_eq_some_iff.1 hx).1
  have hB0 := hB
  obtain ⟨gs, vs, hr, hF⟩ := hB
  have hi : i < B.l.length := (List.getElem?_eq_some_iff.1 hx).1
  have hv : vs[i]? = some (vs[i]'(by rw [hr.len]; exact hi)) := List.getElem?_eq_getElem _
  generalize vs[i]'(by rw [hr.len]; exact hi) = v at hv
  have hd := hr.data i x v hx hv
  have hsm := hr.small x (List.mem_of_getElem? hx)
  have hsm' : x.data.length ≤ 140737488351232 := by omega
  obtain ⟨A, c, rfl⟩ := own_shape hd
  have hcop := copied_any x.id x.fr x.to A x.data.length c x.data
  obtain ⟨c0, c1, c2, _⟩ := hr.cells
  have i1 : Old p w := ⟨hr.plt⟩
  have hown := hr.own
  obtain ⟨g, cap, rfl, _, hg⟩ := hown.form (by omega)
  have i2 : Old g w := ⟨hg⟩
  obtain ⟨a0, a1, a2, a3⟩ := gram_cells hown hr.len hx hv
  go_enter Tryz.func78, Tryz.ntmps78
  go_wp2_with (go_at_call 124; refine (asked_one p B F _ _ (i : Int) _ (hB0.grow (by repeat (with_reducible first | exact Chg.refl _ _ | refine chg_m ?_ _ | refine chg_g ?_ _ | refine chg_alloc ?_ _ | refine chg_drew ?_ | refine chg_drewN ?_ _ | refine chg_set ?_ _ _ _))) (by simp [go_sem]) (Old.lt (b := w.heap.size + 1))).mono ?_; rintro e w' ⟨rfl, g1, rfl⟩)
  refine (hcop _ ((SL.of_own hd).grow (by repeat (with_reducible first | exact Chg.refl _ _ | refine chg_m ?_ _ | refine chg_g ?_ _ | refine chg_alloc ?_ _ | refine chg_drew ?_ | refine chg_drewN ?_ _ | refine chg_set ?_ _ _ _))) hsm').mono ?_
  rintro e w' ⟨A', c', rfl, ho, g3, rfl⟩
  have HX : ∀ Wf, Chg Noth w Wf → Chg (fun k => k < (g1.w).heap.size) (g1.join g3).w Wf → Own1 Wf w.heap.size (.slice A' x.data.length c') x.data ∧ ∃ g : Grows w, Wf = g.w := fun Wf h0 hc => ⟨own_up ho hc, muts_ex h0⟩
  clear ho hcop hd hr hown
  go_wp2_with fail
  exact bodyPost_ret (v := .tuple #[gv x.id x.fr x.to (.slice A' x.data.length c'), i64 0]) (by simp [results, Tryz.results78, go_sem]) rfl ⟨A', c', rfl, HX _ (by
    repeat (with_reducible first | exact Chg.refl _ _ | refine chg_m ?_ _ | refine chg_g ?_ _ | refine chg_alloc ?_ _ | refine chg_drew ?_ | refine chg_drewN ?_ _ | refine chg_set ?_ _ _ _)) (by
    repeat (with_reducible first | exact Chg.refl _ _ | refine chg_m ?_ _ | refine chg_g ?_ _ | refine chg_alloc ?_ _ | refine chg_drew ?_ | refine chg_drewN ?_ _ | refine chg_set ?_ _ _ _))⟩
end Go.Proofs.YteemkceceaabkaaGreat
/- put, Send, Double as one. -/
namespace Go.Proofs.YteemkceceaabkaaGreat
open Go.RowKit Go.Ear
set_option maxHeartbeats 1000000
set_option maxRecDepth 20000

theorem BagTo.same {w w' : World} {p : Nat} {B : BagS} {F : Nat → Prop} {v : Value} {e : Ending} (h : Gr v w e w') (hB : IsBag w p B F) : BagTo w p B F v e w' := by
  obtain ⟨rfl, g, rfl⟩ := h
  exact ⟨rfl, ⟨g.w, g.h.mono (fun _ _ e => e.elim)⟩, F, rfl, hB.grow g.h, fun _ h => .inl h⟩
/-- A call behind a growth. -/
theorem BagTo.from {w w1 w' : World} {p : Nat} {B : BagS} {F : Nat → Prop} {v : Value} {e : Ending} (hg : Chg Noth w w1) (h : BagTo w1 p B F v e w') : BagTo w p B F v e w' := by
  obtain ⟨rfl, m, F', rfl, hB, hF⟩ := h
  exact ⟨rfl, ⟨m.w, (hg.mono (fun _ _ e => e.elim)).trans m.h (fun _ _ e => e)⟩, F', rfl, hB, fun k hk => (hF k hk).imp id (Nat.le_trans hg.size)⟩

/-- What put does. -/
def putS (B : BagS) (fr to : Int) (l : List UInt8) : BagS × Int × Int :=
  if (B.l.length : Int) = B.room then (B, 0, 90) else (⟨B.room, B.last + 1, B.l ++ [⟨B.last + 1, fr, to, l⟩]⟩, B.last + 1, 0)
def sendS (B : BagS) (fr to : Int) (l : List UInt8) : BagS × Int × Int := if 1024 < l.length then (B, 0, 2) else putS B fr to l
def doubleS (B : BagS) (i : Int) : BagS × Int × Int :=
  if i < 0 then (B, 0, 91) else match B.l[i.toNat]? with | none => (B, 0, 91) | some x => putS B x.fr x.to x.data

theorem put_full (p : Nat) (B : BagS) (F : Nat → Prop) (id fr to : Int) (v : Value) (w : World) (h : IsBag w p B F) (hroom : (B.l.length : Int) = B.room) :
    Calls Tryz.prog 123 #[.pointer (some ⟨p, 0, none⟩), gv id fr to v] w (Gr (.tuple #[i64 0, i64 90]) w) := by
  have hroomc := room_any p B F
  have hB := h
  obtain ⟨gs, vs, hr, hF⟩ := h
  have i1 : Old p w := ⟨hr.plt⟩
  have hne : ((B.room - B.l.length : Int) == 0) = true := by simp; omega
  go_enter Tryz.func123, Tryz.ntmps123
  go_wp2_with fail
  refine (hroomc _ (hB.grow (by repeat (with_reducible first | exact Chg.refl _ _ | refine chg_m ?_ _ | refine chg_g ?_ _ | refine chg_alloc ?_ _ | refine chg_drew ?_ | refine chg_drewN ?_ _ | refine chg_set ?_ _ _ _)))).mono ?_
  rintro e w' ⟨rfl, g1, rfl⟩
  go_wp2_with fail
  exact bodyPost_ret (v := .tuple #[i64 0, i64 90]) (by simp [results, Tryz.results123, go_sem]) rfl (gr_mk rfl (by
    repeat (with_reducible first | exact Chg.refl _ _ | refine chg_m ?_ _ | refine chg_g ?_ _ | refine chg_alloc ?_ _ | refine chg_drew ?_ | refine chg_drewN ?_ _ | refine chg_set ?_ _ _ _)))

theorem put_any (p : Nat) (B : BagS) (F : Nat → Prop) (id fr to : Int) (A : Option Addr) (n c : Nat) (l : List UInt8) (w : World) (h : IsBag w p B F)
    (hs : SL w (.slice A n c) l.length 1 (bv l)) (hp : 0 < l.length → ∀ k, (Value.slice A n c).ownBlock = some k → k ≠ p) (hl : l.length ≤ 1024) (hlast : B.last < 1000000000000) :
    Calls Tryz.prog 123 #[.pointer (some ⟨p, 0, none⟩), gv id fr to (.slice A n c)] w
      (BagTo w p (putS B fr to l).1 F (.tuple #[i64 (putS B fr to l).2.1, i64 (putS B fr to l).2.2])) := by
  by_cases hroom : (B.l.length : Int) = B.room
  · simp only [putS, if_pos hroom]
    exact (put_full p B F id fr to _ w h hroom).mono fun _ _ g => BagTo.same g h
  · simp only [putS, if_neg hroom]
    have : (B.l.length : Int) < B.room := by
      obtain ⟨gs, vs, hr, _⟩ := h
      have := hr.fits
      omega
    exact put_room p B F id fr to A n c l w h hs hp hl this hlast

theorem send_any (p : Nat) (B : BagS) (F : Nat → Prop) (fr to : Int) (A : Option Addr) (c : Nat) (l : List UInt8) (w : World) (h : IsBag w p B F)
    (hs : SL w (.slice A l.length c) l.length 1 (bv l)) (hp : 0 < l.length → ∀ k, (Value.slice A l.length c).ownBlock = some k → k ≠ p) (hl : l.length ≤ 1000000000000) (hlast : B.last < 1000000000000) :
    Calls Tryz.prog 77 #[.pointer (some ⟨p, 0, none⟩), i64 fr, i64 to, .slice A l.length c] w
      (BagTo w p (sendS B fr to l).1 F (.tuple #[i64 (sendS B fr to l).2.1, i64 (sendS B fr to l).2.2])) := by
  by_cases h1 : 1024 < l.length
  · simp only [sendS, if_pos h1]
    have h1' : decide ((1024 : Int) < (l.length : Int)) = true := by simp; omega
    go_enter Tryz.func77, Tryz.ntmps77
    go_wp2
    exact bodyPost_ret (v := .tuple #[i64 0, i64 2]) (by simp [results, Tryz.results77, go_sem]) rfl (BagTo.same (gr_same rfl) h)
  · simp only [sendS, if_neg h1]
    have h1' : decide ((1024 : Int) < (l.length : Int)) = false := by simp; omega
    have hput := put_any p B F 0 fr to A l.length c l
    generalize putS B fr to l = R at hput
    obtain ⟨B', x, y⟩ := R
    go_enter Tryz.func77, Tryz.ntmps77
    go_wp2_with fail
    refine (hput _ h hs hp (by omega) hlast).mono ?_
    rintro e w' ⟨rfl, m, F', rfl, hB', hF'⟩
    have HX : BagTo w p B' F (.tuple #[i64 x, i64 y]) (.returned (.tuple #[i64 x, i64 y])) m.w := ⟨rfl, m, F', rfl, hB', hF'⟩
    go_wp2_with fail
    exact bodyPost_ret (v := .tuple #[i64 x, i64 y]) (by simp [results, Tryz.results77, go_sem]) rfl HX

theorem double_any (p : Nat) (B : BagS) (F : Nat → Prop) (i : Int) (w : World) (hB : IsBag w p B F) (hlast : B.last < 1000000000000) :
    Calls Tryz.prog 88 #[.pointer (some ⟨p, 0, none⟩), i64 i] w (BagTo w p (doubleS B i).1 F (.tuple #[i64 (doubleS B i).2.1, i64 (doubleS B i).2.2])) := by
  rcases (show (i < 0 ∨ (B.l.length : Int) ≤ i) ∨ (0 ≤ i ∧ i < (B.l.length : Int)) from by omega) with h | ⟨h0, h1⟩
  · have ed : doubleS B i = (B, 0, 91) := by
      unfold doubleS
      split
      · rfl
      · rw [List.getElem?_eq_none (by omega)]
    rw [ed]
    have ha := asked_bad h
    go_enter Tryz.func88, Tryz.ntmps88
    go_wp2_with (go_at_call 124; refine (asked_one p B F _ _ i _ (hB.grow (by repeat (with_reducible first | exact Chg.refl _ _ | refine chg_m ?_ _ | refine chg_g ?_ _ | refine chg_alloc ?_ _ | refine chg_drew ?_ | refine chg_drewN ?_ _ | refine chg_set ?_ _ _ _))) (by simp [go_sem]) (Old.lt (b := w.heap.size))).mono ?_; rintro e w' ⟨rfl, g1, rfl⟩)
    exact bodyPost_ret (v := .tuple #[i64 0, i64 91]) (by simp [results, Tryz.results88, go_sem]) rfl (BagTo.same (gr_mk rfl (by
      repeat (with_reducible first | exact Chg.refl _ _ | refine chg_m ?_ _ | refine chg_g ?_ _ | refine chg_alloc ?_ _ | refine chg_drew ?_ | refine chg_drewN ?_ _ | refine chg_set ?_ _ _ _))) hB)
  · obtain ⟨i, rfl⟩ := Int.eq_ofNat_of_zero_le h0
    have hi : i < B.l.length := by omega
    obtain ⟨x, hx⟩ : ∃ x, B.l[i]? = some x := ⟨_, List.getElem?_eq_getElem hi⟩
    have ed : doubleS B (i : Int) = putS B x.fr x.to x.data := by simp [doubleS, hx]; omega
    rw [ed]
    have ha := asked_good (List.getElem?_eq_some_iff.1 hx).1
    have hB0 := hB
    obtain ⟨gs, vs, hr, hF⟩ := hB
    have hv : vs[i]? = some (vs[i]'(by rw [hr.len]; exact hi)) := List.getElem?_eq_getElem _
    generalize vs[i]'(by rw [hr.len]; exact hi) = v at hv
    have hd := hr.data i x v hx hv
    have hsm := hr.small x (List.mem_of_getElem? hx)
    obtain ⟨A, c, rfl⟩ := own_shape hd
    obtain ⟨c0, c1, c2, _⟩ := hr.cells
    have i1 : Old p w := ⟨hr.plt⟩
    have hown := hr.own
    have hnp := own_ne hd hr.blk (by decide)
    obtain ⟨g, cap, rfl, _, hg⟩ := hown.form (by omega)
    have i2 : Old g w := ⟨hg⟩
    obtain ⟨a0, a1, a2, a3⟩ := gram_cells hown hr.len hx hv
    have hput := put_any p B F x.id x.fr x.to A x.data.length c x.data
    generalize putS B x.fr x.to x.data = R at hput
    obtain ⟨B', y, z⟩ := R
    go_enter Tryz.func88, Tryz.ntmps88
    go_wp2_with (go_at_call 124; refine (asked_one p B F _ _ (i : Int) _ (hB0.grow (by repeat (with_reducible first | exact Chg.refl _ _ | refine chg_m ?_ _ | refine chg_g ?_ _ | refine chg_alloc ?_ _ | refine chg_drew ?_ | refine chg_drewN ?_ _ | refine chg_set ?_ _ _ _))) (by simp [go_sem]) (Old.lt (b := w.heap.size))).mono ?_; rintro e w' ⟨rfl, g1, rfl⟩)
    refine (hput _ (hB0.grow (by repeat (with_reducible first | exact Chg.refl _ _ | refine chg_m ?_ _ | refine chg_g ?_ _ | refine chg_alloc ?_ _ | refine chg_drew ?_ | refine chg_drewN ?_ _ | refine chg_set ?_ _ _ _))) ((SL.of_own hd).grow (by repeat (with_reducible first | exact Chg.refl _ _ | refine chg_m ?_ _ | refine chg_g ?_ _ | refine chg_alloc ?_ _ | refine chg_drew ?_ | refine chg_drewN ?_ _ | refine chg_set ?_ _ _ _))) (fun _ => hnp) hsm hlast).mono ?_
    rintro e w' ⟨rfl, m, F', rfl, hB', hF'⟩
    have HX : BagTo w p B' F (.tuple #[i64 y, i64 z]) (.returned (.tuple #[i64 y, i64 z])) m.w := BagTo.from (w1 := g1.w) (by repeat (with_reducible first | exact Chg.refl _ _ | refine chg_m ?_ _ | refine chg_g ?_ _ | refine chg_alloc ?_ _ | refine chg_drew ?_ | refine chg_drewN ?_ _ | refine chg_set ?_ _ _ _)) ⟨rfl, m, F', rfl, hB', hF'⟩
    clear hput hd hr hown hB'
    go_wp2_with fail
    exact bodyPost_ret (v := .tuple #[i64 y, i64 z]) (by simp [results, Tryz.results88, go_sem]) rfl HX
end Go.Proofs.YteemkceceaabkaaGreat
/- Spoil. -/
namespace Go.Proofs.YteemkceceaabkaaGreat
open Go.RowKit Go.Ear
set_option maxHeartbeats 1000000
set_option maxRecDepth 20000

/-- What Spoil does. -/
def spoilS (B : BagS) (i at' by' : Int) : BagS × Int :=
  if i < 0 then (B, 91) else match B.l[i.toNat]? with
  | none => (B, 91)
  | some x => if by' < 1 ∨ 255 < by' ∨ x.data.length = 0 then (B, 1) else
    let j := (at' % x.data.length).toNat
    ({ B with l := B.l.set i.toNat { x with data := x.data.set j ((x.data.getD j 0) ^^^ UInt8.ofNat by'.toNat) } }, 0)

theorem spoil_bad (p : Nat) (B : BagS) (F : Nat → Prop) (i a b : Int) (w : World) (hB : IsBag w p B F) (h : i < 0 ∨ (B.l.length : Int) ≤ i) :
    Calls Tryz.prog 92 #[.pointer (some ⟨p, 0, none⟩), i64 i, i64 a, i64 b] w (Gr (i64 91) w) := by
  have ha := asked_bad h
  go_enter Tryz.func92, Tryz.ntmps92
  go_wp2_with (go_at_call 124; refine (asked_one p B F _ _ i _ (hB.grow (by repeat (with_reducible first | exact Chg.refl _ _ | refine chg_m ?_ _ | refine chg_g ?_ _ | refine chg_alloc ?_ _ | refine chg_drew ?_ | refine chg_drewN ?_ _ | refine chg_set ?_ _ _ _))) (by simp [go_sem]) (Old.lt (b := w.heap.size))).mono ?_; rintro e w' ⟨rfl, g1, rfl⟩)
  go_ret
  exact gr_mk rfl (by
    repeat (with_reducible first | exact Chg.refl _ _ | refine chg_m ?_ _ | refine chg_g ?_ _ | refine chg_alloc ?_ _ | refine chg_drew ?_ | refine chg_drewN ?_ _ | refine chg_set ?_ _ _ _))

theorem xor_byte (a : UInt8) (b : Int) (h0 : 0 ≤ b) (h1 : b ≤ 255) : bits .xor .u8 (a.toNat : Int) b = ((a ^^^ UInt8.ofNat b.toNat).toNat : Int) := by
  obtain ⟨n, rfl⟩ := Int.eq_ofNat_of_zero_le h0
  show IntKind.u8.wrap (((BitVec.ofInt 8 (a.toNat : Int) ^^^ BitVec.ofInt 8 (n : Int) : BitVec 8).toNat : Nat) : Int) = _
  rw [Int.toNat_natCast]
  have e1 : BitVec.ofInt 8 (a.toNat : Int) = a.toBitVec := by
    apply BitVec.eq_of_toNat_eq
    have := a.toNat_lt
    simp
  have e2 : BitVec.ofInt 8 (n : Int) = (UInt8.ofNat n).toBitVec := by
    apply BitVec.eq_of_toNat_eq
    simp
  rw [e1, e2]
  have e3 : (a.toBitVec ^^^ (UInt8.ofNat n).toBitVec).toNat = (a ^^^ UInt8.ofNat n).toNat := rfl
  rw [e3]
  have := (a ^^^ UInt8.ofNat n).toNat_lt
  generalize (a ^^^ UInt8.ofNat n).toNat = m at *
  rw [IntKind.wrap_u8]
  omega

theorem own_set {w : World} {base : Nat} {e : TypeId} {n g cap j : Nat} {xs : List Value} {u : Value} (h : w.ownsRow base e 1 (.slice (some ⟨g, 0, none⟩) n cap) n xs) (_ : j < n) :
    (w.setCell ⟨g, j, none⟩ u).ownsRow base e 1 (.slice (some ⟨g, 0, none⟩) n cap) n (xs.set j u) := by
  obtain ⟨hl, h2⟩ := h
  rcases h2 with ⟨h', _⟩ | ⟨g', cap', cur, h', hb, hg, hnc, hcm, hcs, htake⟩
  · simp at h'
  · simp only [Value.slice.injEq, Option.some.injEq, Addr.mk.injEq, and_true, true_and] at h'
    obtain ⟨rfl, rfl⟩ := h'
    refine ⟨by simp [hl], .inr ⟨g, cap, _, rfl, hb, heap_setCell_same _ g j _ _ u hg, hnc, hcm, by simp [hcs], ?_⟩⟩
    rw [Array.toList_setIfInBounds, List.take_set, htake]

theorem flat_set_same (l : List Gm) (vs : List Value) (i : Nat) (x y : Gm) (hx : l[i]? = some x) (h1 : y.id = x.id) (h2 : y.fr = x.fr) (h3 : y.to = x.to) : flat (l.set i y) vs = flat l vs := by
  unfold flat
  induction l generalizing vs i with
  | nil => simp
  | cons z l ih =>
    cases vs with
    | nil => cases i <;> simp
    | cons v vs =>
      cases i with
      | zero => simp at hx; subst hx; simp [hcells, h1, h2, h3]
      | succ i => simp only [List.set_cons_succ, List.zip_cons_cons, List.flatMap_cons]; rw [ih vs i (by simpa using hx)]

/-- A bag of which one byte has been turned. -/
theorem spoil_end {w W : World} {p i j dg dcap : Nat} {B : BagS} {F : Nat → Prop} {gs r : Value} {vs : List Value} {x : Gm} (b : UInt8) (hr : BagRep w p B gs vs) (hF : ∀ k, F k ↔ foot p gs vs k) (hC : Chg Noth w W) (hx : B.l[i]? = some x)
    (hv : vs[i]? = some (.slice (some ⟨dg, 0, none⟩) x.data.length dcap)) (hj : j < x.data.length) :
    BagTo w p { B with l := B.l.set i { x with data := x.data.set j b } } F r (.returned r) (W.setCell ⟨dg, j, none⟩ (.int .u8 (b.toNat : Int))) := by
  have hd := hr.data i x _ hx hv
  have hnp := own_ne hd hr.blk (by decide) dg rfl
  have hng : ∀ k, gs.ownBlock = some k → k ≠ dg := fun k hk e => by subst e; exact own_own hr.own hd (by decide) k hk rfl
  have hfd : F dg := (hF dg).2 (.inr (.inr ⟨_, List.mem_of_getElem? hv, rfl⟩))
  have hrW : BagRep W p B gs vs := hr.chg hC (fun _ _ e => e)
  have i9 : May dg (fun k => k = dg) W := ⟨.inl rfl⟩
  have hcs : Chg (fun k => k = dg) W (W.setCell ⟨dg, j, none⟩ (.int .u8 (b.toNat : Int))) := chg_set (Chg.refl _ _) dg j _
  refine ⟨rfl, ⟨_, (hC.mono (fun _ _ e => e.elim)).trans hcs (fun i _ e => by subst e; exact hfd)⟩, F, rfl, ⟨gs, vs, ?_, hF⟩, fun _ h => .inl h⟩
  refine ⟨(hcs.block p hrW.plt (Ne.symm hnp)).trans hrW.blk, ?_, by simp [hrW.len], ?_, hrW.apart, by simpa using hrW.fits, hrW.lasts, ?_⟩
  · rw [flat_set_same _ _ _ x { x with data := x.data.set j b } hx rfl rfl rfl]
    simp only [List.length_set]
    exact own_chg hrW.own hcs hng
  · intro k y u hy hu
    by_cases hk : k = i
    · subst hk
      rw [hv] at hu
      cases hu
      rw [List.getElem?_set_self (by exact (List.getElem?_eq_some_iff.1 hx).1)] at hy
      cases hy
      have := own_set (u := .int .u8 (b.toNat : Int)) (hrW.data k x _ hx hv) hj
      simpa [bv, List.map_set] using this
    · rw [List.getElem?_set_ne (Ne.symm hk)] at hy
      exact own_chg (hrW.data k y u hy hu) hcs fun q hq e => hk (hrW.apart k i u _ dg hu hv (by rw [hq, e]) rfl)
  · intro y hy
    rcases List.mem_or_eq_of_mem_set hy with h | rfl
    · exact hrW.small y h
    · simpa using hrW.small x (List.mem_of_getElem? hx)

theorem spoil_good (p i : Nat) (B : BagS) (F : Nat → Prop) (at' by' : Int) (w : World) (hB : IsBag w p B F) (x : Gm) (hx : B.l[i]? = some x) (hat : -9223372036854775808 ≤ at' ∧ at' ≤ 9223372036854775807) :
    Calls Tryz.prog 92 #[.pointer (some ⟨p, 0, none⟩), i64 i, i64 at', i64 by'] w (BagTo w p (spoilS B i at' by').1 F (i64 (spoilS B i at' by').2)) := by
  have hi : i < B.l.length := (List.getElem?_eq_some_iff.1 hx).1
  have ha := asked_good (List.getElem?_eq_some_iff.1 hx).1
  have hB0 := hB
  obtain ⟨gs, vs, hr, hF⟩ := hB
  have hv : vs[i]? = some (vs[i]'(by rw [hr.len]; exact hi)) := List.getElem?_eq_getElem _
  generalize vs[i]'(by rw [hr.len]; exact hi) = v at hv
  have hd := hr.data i x v hx hv
  have hsm := hr.small x (List.mem_of_getElem? hx)
  obtain ⟨c0, c1, c2, _⟩ := hr.cells
  have i1 : Old p w := ⟨hr.plt⟩
  have hown := hr.own
  have hnp := own_ne hd hr.blk (by decide)
  obtain ⟨g, cap, rfl, _, hg⟩ := hown.form (by omega)
  have i2 : Old g w := ⟨hg⟩
  obtain ⟨a0, a1, a2, a3⟩ := gram_cells hown hr.len hx hv
  by_cases hbad : by' < 1 ∨ 255 < by' ∨ x.data.length = 0
  · have ed : spoilS B i at' by' = (B, 1) := by simp only [spoilS, if_neg (show ¬ (i : Int) < 0 by omega), Int.toNat_natCast, hx, if_pos hbad]
    rw [ed]
    obtain ⟨A, c, rfl⟩ := own_shape hd
    rcases (show by' < 1 ∨ (1 ≤ by' ∧ 255 < by') ∨ (1 ≤ by' ∧ by' ≤ 255 ∧ x.data.length = 0) from by omega) with h | ⟨h, h'⟩ | ⟨h, h', h''⟩
    all_goals
      go_enter Tryz.func92, Tryz.ntmps92
      go_wp2_with (go_at_call 124; refine (asked_one p B F _ _ (i : Int) _ (hB0.grow (by repeat (with_reducible first | exact Chg.refl _ _ | refine chg_m ?_ _ | refine chg_g ?_ _ | refine chg_alloc ?_ _ | refine chg_drew ?_ | refine chg_drewN ?_ _ | refine chg_set ?_ _ _ _))) (by simp [go_sem]) (Old.lt (b := w.heap.size))).mono ?_; rintro e w' ⟨rfl, g1, rfl⟩)
      go_ret
      refine BagTo.same (gr_mk rfl ?_) hB0
      repeat (with_reducible first | exact Chg.refl _ _ | refine chg_m ?_ _ | refine chg_g ?_ _ | refine chg_alloc ?_ _ | refine chg_drew ?_ | refine chg_drewN ?_ _ | refine chg_set ?_ _ _ _)
  · obtain ⟨dg, dcap, rfl, _, hdg⟩ := hd.form (by omega)
    have hj0 := Int.emod_nonneg at' (show (x.data.length : Int) ≠ 0 by omega)
    have hj1 := Int.emod_lt_of_pos at' (show (0 : Int) < (x.data.length : Int) by omega)
    have ed : spoilS B i at' by' = ({ B with l := B.l.set i { x with data := x.data.set (at' % x.data.length).toNat ((x.data.getD (at' % x.data.length).toNat 0) ^^^ UInt8.ofNat by'.toNat) } }, 0) := by
      simp only [spoilS, if_neg (show ¬ (i : Int) < 0 by omega), Int.toNat_natCast, hx, if_neg hbad]
    rw [ed]
    have hround := fun W => round_any at' x.data.length W (by omega) (by omega) hat
    generalize hj : at' % (x.data.length : Int) = J at *
    obtain ⟨j, rfl⟩ := Int.eq_ofNat_of_zero_le hj0
    have hjl : j < x.data.length := by omega
    have i3 : Old dg w := ⟨hdg⟩
    have d0 : w.cell? ⟨dg, j, none⟩ = some (.int .u8 (x.data[j].toNat : Int)) := by
      rw [hd.cellAt _ (by omega)]
      simp [bv, hjl]
    have d1 : w.frozen? ⟨dg, j, none⟩ = false := hd.frozenAt _
    have hne0 : ((x.data.length : Int) == 0) = false := beq_eq_false_iff_ne.2 (by omega)
    have hb1 : ¬ by' < 1 := by omega
    have hb2 : ¬ 255 < by' := by omega
    have hb3 : ¬ by' > 255 := by omega
    clear hj
    have hxor := xor_byte x.data[j] by' (by omega) (by omega)
    have HS := Lib.hid (fun W (h : Chg Noth w W) => spoil_end (W := W) (r := i64 0) (x.data[j] ^^^ UInt8.ofNat by'.toNat) hr hF h hx hv hjl)
    simp only [Int.toNat_natCast, List.getD_eq_getElem?_getD, List.getElem?_eq_getElem hjl, Option.getD_some]
    clear hr hd hown hv hx ed
    go_enter Tryz.func92, Tryz.ntmps92
    go_wp2_with (first
      | (go_at_call 124; refine (asked_one p B F _ _ (i : Int) _ (hB0.grow (by repeat (with_reducible first | exact Chg.refl _ _ | refine chg_m ?_ _ | refine chg_g ?_ _ | refine chg_alloc ?_ _ | refine chg_drew ?_ | refine chg_drewN ?_ _ | refine chg_set ?_ _ _ _))) (by simp [go_sem]) (Old.lt (b := w.heap.size))).mono ?_; rintro e w' ⟨rfl, g1, rfl⟩)
      | (go_at_call 129; refine (hround _).mono ?_; rintro e w' ⟨rfl, g2, rfl⟩))
    go_ret
    exact HS.out _ (by
      repeat (with_reducible first | exact Chg.refl _ _ | refine chg_m ?_ _ | refine chg_g ?_ _ | refine chg_alloc ?_ _ | refine chg_drew ?_ | refine chg_drewN ?_ _ | refine chg_set ?_ _ _ _))
end Go.Proofs.YteemkceceaabkaaGreat
