/- The walk of out. -/
import Derived.Test.YteemkceceaabkaaGreatD
namespace Go.Proofs.YteemkceceaabkaaGreat
open Go.RowKit Go.Ear
set_option maxHeartbeats 1000000
set_option maxRecDepth 20000

/-- The cells of one datagram in the bag's list. -/
theorem gram_cells {w : World} {base g cap i : Nat} {l : List Gm} {vs : List Value} {x : Gm} {v : Value} (h : w.ownsRow base 110 4 (.slice (some ⟨g, 0, none⟩) l.length cap) l.length (flat l vs)) (hl : vs.length = l.length) (hx : l[i]? = some x) (hv : vs[i]? = some v) :
    w.cell? ⟨g, i * 4, none⟩ = some (i64 x.id) ∧ w.cell? ⟨g, i * 4 + 1, none⟩ = some (i64 x.fr) ∧ w.cell? ⟨g, i * 4 + 2, none⟩ = some (i64 x.to) ∧ w.cell? ⟨g, i * 4 + 3, none⟩ = some v := by
  have hi : i < l.length := (List.getElem?_eq_some_iff.1 hx).1
  have e := flat_split l vs i x v hl hx hv
  have e1 : (flat (l.take i) (vs.take i)).length = i * 4 := by rw [hcells_len _ _ (by simp [hl])]; simp; omega
  have e2 : ∀ j, j < 4 → (flat l vs)[i * 4 + j]? = (hcells (x, v))[j]? := fun j hj => by
    rw [e, List.getElem?_append_right (by omega), e1, List.getElem?_append_left (by simp [hcells]; omega)]
    congr 1
    omega
  have e3 : ∀ j, j < 4 → w.cell? ⟨g, i * 4 + j, none⟩ = (hcells (x, v))[j]? := fun j hj => (h.cellAt _ (by omega)).trans (e2 j hj)
  exact ⟨e3 0 (by omega), e3 1 (by omega), e3 2 (by omega), e3 3 (by omega)⟩

theorem flat_erase (l : List Gm) (vs : List Value) (i : Nat) (g : Gm) (v : Value) (h : vs.length = l.length) (hg : l[i]? = some g) (hv : vs[i]? = some v) :
    flat (l.eraseIdx i) (vs.eraseIdx i) = (flat l vs).take (i * 4) ++ (flat l vs).drop ((i + 1) * 4) := by
  have hi : i < l.length := (List.getElem?_eq_some_iff.1 hg).1
  have e1 : (flat (l.take i) (vs.take i)).length = i * 4 := by rw [hcells_len _ _ (by simp [h])]; simp; omega
  have e2 : flat (l.eraseIdx i) (vs.eraseIdx i) = flat (l.take i) (vs.take i) ++ flat (l.drop (i + 1)) (vs.drop (i + 1)) := by
    unfold flat
    rw [List.eraseIdx_eq_take_drop_succ, List.eraseIdx_eq_take_drop_succ, List.zip_append (by simp [h]), List.flatMap_append]
  have e3 := flat_split l vs i g v h hg hv
  rw [e2, e3]
  generalize flat (l.take i) (vs.take i) = T at *
  generalize flat (l.drop (i + 1)) (vs.drop (i + 1)) = D at *
  have e4 : (hcells (g, v)).length = 4 := rfl
  generalize hcells (g, v) = M at *
  have e5 : (T ++ (M ++ D)).take (i * 4) = T := by rw [← e1, List.take_left]
  have e6 : (T ++ (M ++ D)).drop ((i + 1) * 4) = D := by
    rw [show (i + 1) * 4 = (T ++ M).length from by rw [List.length_append, e1, e4]; omega, ← List.append_assoc, List.drop_left]
  rw [e5, e6]

theorem erase_idx {α : Type} {l : List α} {i j : Nat} {x : α} (h : (l.eraseIdx i)[j]? = some x) : l[if j < i then j else j + 1]? = some x := by
  rw [List.getElem?_eraseIdx] at h
  split at h
  · rw [if_pos (by assumption)]; exact h
  · rw [if_neg (by assumption)]; exact h

/-- A bag off whose list one datagram has been taken. -/
theorem out_end {w W : World} {p g cap i : Nat} {B : BagS} {F : Nat → Prop} {v : Value} {vs : List Value} {x : Gm} (hr : BagRep w p B (.slice (some ⟨g, 0, none⟩) B.l.length cap) vs) (hF : ∀ k, F k ↔ foot p (.slice (some ⟨g, 0, none⟩) B.l.length cap) vs k)
    (hC : Chg Noth w W) (hx : B.l[i]? = some x) (hv : vs[i]? = some v) (hcap : B.l.length ≤ cap) (news : List Value) (hn : news = (flat B.l vs).drop ((i + 1) * 4)) (n' : Nat) (hn' : n' = B.l.length - 1) (o : Nat) (ho : o = i * 4) :
    ∃ (m : Muts F w) (F' : Nat → Prop), (W.setCells g o news).setCell ⟨p, 2, none⟩ (.slice (some ⟨g, 0, none⟩) n' cap) = m.w ∧ IsBag m.w p { B with l := B.l.eraseIdx i } F' ∧ (∀ k, F' k → F k) ∧
      (∀ k, v.ownBlock = some k → F k ∧ ¬ F' k) ∧ m.w.ownsRow 0 5 1 v x.data.length (bv x.data) := by
  have hi : i < B.l.length := (List.getElem?_eq_some_iff.1 hx).1
  have hgsp := own_ne hr.own hr.blk (by decide)
  have hgp : g ≠ p := hgsp g rfl
  have hrW : BagRep W p B (.slice (some ⟨g, 0, none⟩) B.l.length cap) vs := hr.chg hC (fun _ _ e => e)
  have hnl : news.length = (B.l.length - (i + 1)) * 4 := by rw [hn, List.length_drop, hcells_len _ _ hr.len]; omega
  have hown := own_setCells (q := B.l.length - (i + 1)) (m := i) (o := i * 4) hrW.own rfl (by omega) hnl (by omega)
  have he : i + (B.l.length - (i + 1)) = B.l.length - 1 := by omega
  rw [he, hn, ← flat_erase B.l vs i x v hr.len hx hv, ← hn, ← ho, ← hn'] at hown
  have hc1 : Chg (fun k => k = p ∨ k = g) w (W.setCells g o news) := chg_setCells (hC.mono (fun _ _ e => e.elim)) g _ _ (.inl (.inr rfl))
  have i9 : May p (fun k => k = p ∨ k = g) w := ⟨.inl (.inl rfl)⟩
  have hcA := chg_set hc1 p 2 (.slice (some ⟨g, 0, none⟩) n' cap)
  have hc2 : Chg (fun k => k = p) (W.setCells g o news) ((W.setCells g o news).setCell ⟨p, 2, none⟩ (.slice (some ⟨g, 0, none⟩) n' cap)) := chg_set (Chg.refl _ _) p 2 _
  have hblk1 : (W.setCells g o news).heap[p]? = some (.cells #[i64 B.room, i64 B.last, .slice (some ⟨g, 0, none⟩) B.l.length cap] 67 (0, 0)) := by
    have : Chg (fun k => k = g) W (W.setCells g o news) := chg_setCells (Chg.refl _ _) g _ _ (.inl rfl)
    rw [this.block p hrW.plt (Ne.symm hgp)]
    exact hrW.blk
  have hdata0 : ∀ (i : Nat) (x : Gm) (u : Value), B.l[i]? = some x → vs[i]? = some u → ∀ k, u.ownBlock = some k → ¬ (k = p ∨ k = g) := by
    intro i x u hx hu k hk
    have hd := hr.data i x u hx hu
    rintro (e | e)
    · exact own_ne hd hr.blk (by decide) k hk e
    · subst e; exact own_own hd hr.own (by decide) k hk rfl
  have hlen' : (B.l.eraseIdx i).length = n' := by rw [List.length_eraseIdx, if_pos hi, hn']
  have hmem : ∀ u, u ∈ vs.eraseIdx i → u ∈ vs := fun u hu => List.mem_of_mem_eraseIdx hu
  refine ⟨⟨_, hcA.mono fun k hk e => ?_⟩, foot p (.slice (some ⟨g, 0, none⟩) n' cap) (vs.eraseIdx i), rfl, ⟨_, vs.eraseIdx i, ?_, fun _ => Iff.rfl⟩, ?_, ?_, ?_⟩
  · exact (hF k).2 (e.elim Or.inl (fun e => Or.inr (Or.inl (by subst e; rfl))))
  · refine ⟨heap_setCell_same _ p 2 _ _ _ hblk1, ?_, ?_, ?_, ?_, ?_, hr.lasts, ?_⟩
    · rw [hlen']
      exact own_chg hown hc2 (fun k hk => by simp [Value.ownBlock] at hk; omega)
    · rw [hlen', List.length_eraseIdx, if_pos (by rw [hr.len]; exact hi), hr.len, hn']
    · intro j y u hy hu
      exact own_chg (hr.data _ y u (erase_idx hy) (erase_idx hu)) hcA (hdata0 _ y u (erase_idx hy) (erase_idx hu))
    · intro j j' u u' k hj hj' hk hk'
      have := hr.apart _ _ u u' k (erase_idx hj) (erase_idx hj') hk hk'
      split at this <;> split at this <;> omega
    · have := hr.fits
      refine ⟨?_, this.2⟩
      show ((B.l.eraseIdx i).length : Int) ≤ B.room
      rw [hlen']
      omega
    · intro y hy
      exact hr.small y (List.mem_of_mem_eraseIdx hy)
  · rintro k (rfl | h | ⟨u, hu, hk⟩)
    · exact (hF k).2 (.inl rfl)
    · exact (hF k).2 (.inr (.inl h))
    · exact (hF k).2 (.inr (.inr ⟨u, hmem u hu, hk⟩))
  · intro k hk
    refine ⟨(hF k).2 (.inr (.inr ⟨v, List.mem_of_getElem? hv, hk⟩)), ?_⟩
    rintro (rfl | h | ⟨u, hu, hk'⟩)
    · exact hdata0 i x v hx hv k hk (.inl rfl)
    · simp [Value.ownBlock] at h
      exact hdata0 i x v hx hv k hk (.inr h.symm)
    · obtain ⟨j, hj⟩ := List.mem_iff_getElem?.1 hu
      have := hr.apart _ _ u v k (erase_idx hj) hv hk' hk
      split at this <;> omega
  · exact own_chg (hr.data i x v hx hv) hcA (hdata0 i x v hx hv)

theorem flat_one (l : List Gm) (vs : List Value) (h : ∀ v ∈ vs, v.oneCell' = true) : ∀ u ∈ flat l vs, u.oneCell' = true := by
  intro u hu
  simp only [flat, List.mem_flatMap] at hu
  obtain ⟨x, hx, hu⟩ := hu
  have := (List.of_mem_zip hx).2
  simp [hcells] at hu
  rcases hu with rfl | rfl | rfl | rfl
  · rfl
  · rfl
  · rfl
  · exact h _ this
theorem BagRep.data' {w : World} {p : Nat} {B : BagS} {gs : Value} {vs : List Value} (h : BagRep w p B gs vs) : ∀ v ∈ vs, v.oneCell' = true := by
  intro v hv
  obtain ⟨i, hi⟩ := List.mem_iff_getElem?.1 hv
  have hl : i < B.l.length := by have := (List.getElem?_eq_some_iff.1 hi).1; have := h.len; omega
  obtain ⟨A, c, rfl⟩ := own_shape (h.data i _ v (List.getElem?_eq_getElem hl) hi)
  rfl
theorem out_any (p i : Nat) (B : BagS) (F : Nat → Prop) (w : World) (h : IsBag w p B F) (x : Gm) (hx : B.l[i]? = some x) :
    Calls Tryz.prog 128 #[.pointer (some ⟨p, 0, none⟩), i64 i] w fun e w' => ∃ A c, e = .returned (gv x.id x.fr x.to (.slice A x.data.length c)) ∧ w'.ownsRow 0 5 1 (.slice A x.data.length c) x.data.length (bv x.data) ∧
      ∃ (m : Muts F w) (F' : Nat → Prop), w' = m.w ∧ IsBag m.w p { B with l := B.l.eraseIdx i } F' ∧ (∀ k, F' k → F k) ∧ ∀ k, (Value.slice A x.data.length c).ownBlock = some k → F k ∧ ¬ F' k := by
  obtain ⟨gs, vs, hr, hF⟩ := h
  obtain ⟨c0, c1, c2, f0⟩ := hr.cells
  obtain ⟨b1, b2⟩ := hr.fits
  have i1 : Old p w := ⟨hr.plt⟩
  have f2 := f0 2
  clear f0
  have hi : i < B.l.length := (List.getElem?_eq_some_iff.1 hx).1
  have hv : vs[i]? = some (vs[i]'(by rw [hr.len]; exact hi)) := List.getElem?_eq_getElem _
  generalize vs[i]'(by rw [hr.len]; exact hi) = v at hv
  have hd := hr.data i x v hx hv
  obtain ⟨A, c, rfl⟩ := own_shape hd
  have hown := hr.own
  obtain ⟨g, cap, rfl, _, hg⟩ := hown.form (by omega)
  have i2 : Old g w := ⟨hg⟩
  obtain ⟨a0, a1, a2, a3⟩ := gram_cells hown hr.len hx hv
  have hcap : B.l.length ≤ cap := by
    rcases hown.2 with ⟨h', _⟩ | ⟨g', cap', cur, h', _, _, hnc, _⟩
    · simp at h'
    · simp only [Value.slice.injEq, Option.some.injEq, Addr.mk.injEq, and_true, true_and] at h'
      omega
  go_enter Tryz.func128, Tryz.ntmps128
  go_wp2
  generalize hW : (w.alloc (Obj.cells #[Value.int IntKind.i64 0, Value.int IntKind.i64 0, Value.int IntKind.i64 0, Value.slice none 0 0] 110)).alloc (Obj.cells #[Value.int IntKind.i64 x.id, Value.int IntKind.i64 x.fr, Value.int IntKind.i64 x.to, Value.slice A x.data.length c] 110) = W
  have hC : Chg Noth w W := by
    rw [← hW]
    repeat (with_reducible first | exact Chg.refl _ _ | refine chg_m ?_ _ | refine chg_g ?_ _ | refine chg_alloc ?_ _ | refine chg_drew ?_ | refine chg_drewN ?_ _ | refine chg_set ?_ _ _ _)
  have p2 : W.cell? ⟨p, 2, none⟩ = some (.slice (some ⟨g, 0, none⟩) B.l.length cap) := by rw [← hW]; simp [go_sem, c2]
  have q2 : W.frozen? ⟨p, 2, none⟩ = false := by rw [← hW]; simp [go_sem, f2]
  have k0 : W.cell? ⟨w.heap.size + 1, 0, none⟩ = some (i64 x.id) := by rw [← hW]; simp [go_sem]
  have k1 : W.cell? ⟨w.heap.size + 1, 1, none⟩ = some (i64 x.fr) := by rw [← hW]; simp [go_sem]
  have k2 : W.cell? ⟨w.heap.size + 1, 2, none⟩ = some (i64 x.to) := by rw [← hW]; simp [go_sem]
  have k3 : W.cell? ⟨w.heap.size + 1, 3, none⟩ = some (.slice A x.data.length c) := by rw [← hW]; simp [go_sem]
  have r0 : W.cell? ⟨w.heap.size, 0, none⟩ = some (i64 0) := by rw [← hW]; simp [go_sem]
  have r1 : W.cell? ⟨w.heap.size, 1, none⟩ = some (i64 0) := by rw [← hW]; simp [go_sem]
  have r2 : W.cell? ⟨w.heap.size, 2, none⟩ = some (i64 0) := by rw [← hW]; simp [go_sem]
  have r3 : W.cell? ⟨w.heap.size, 3, none⟩ = some (.slice none 0 0) := by rw [← hW]; simp [go_sem]
  have rf : ∀ o, W.frozen? ⟨w.heap.size, o, none⟩ = false := fun o => by rw [← hW]; simp [go_sem]
  have RF := Lib.hid rf
  clear rf
  have hrW : BagRep W p B _ vs := hr.chg hC (fun _ _ e => e)
  have i3 : Old p W := ⟨hrW.plt⟩
  have i4 : Old g W := ⟨(hrW.own.lt g rfl).2⟩
  clear hW c0 c1 c2 f2 a0 a1 a2 a3
  have s1 : IntKind.i64.wrap (↑i + 1) = ↑i + 1 := by rw [IntKind.wrap_i64]; omega
  have s2 : (0 : Int) ≤ ↑i + 1 := by omega
  have s3 : ((i : Int) + 1).toNat = i + 1 := by omega
  have s4 : (i : Int) + 1 ≤ (B.l.length : Int) := by omega
  have s5 : (i : Int) ≤ (cap : Int) := by omega
  have s6 : i ≤ cap := by omega
  have s7 : i + 1 ≤ cap := by omega
  have s8 : (B.l.length : Int) ≤ (cap : Int) := by omega
  have s9 : (i : Int) + 1 ≤ (cap : Int) := by omega
  obtain ⟨i0, hi0, hz0, hz1, hz2⟩ := info_parts info35
  have hownW := hrW.own
  have hnp := own_ne hownW hrW.blk (by decide)
  have hgp : g ≠ p := hnp g rfl
  have hnews : ∀ j u, ((flat B.l vs).drop ((i + 1) * 4))[j]? = some u → W.cell? ((⟨g, (i + 1) * 4, none⟩ : Addr).add j) = some u := by
    intro j u hu
    rw [List.getElem?_drop] at hu
    have hj : (i + 1) * 4 + j < (flat B.l vs).length := (List.getElem?_eq_some_iff.1 hu).1
    rw [hcells_len _ _ hr.len] at hj
    rw [Go.WideShapes.add_plain, hownW.cellAt _ hj]
    exact hu
  have hnl : ((flat B.l vs).drop ((i + 1) * 4)).length = (B.l.length - (i + 1)) * 4 := by rw [List.length_drop, hcells_len _ _ hr.len]; omega
  have hone : ∀ u ∈ (flat B.l vs).drop ((i + 1) * 4), u.oneCell' = true := fun u hu => flat_one B.l vs hr.data' u (List.mem_of_mem_drop hu)
  have hspare : ∀ j, j < ((flat B.l vs).drop ((i + 1) * 4)).length → (W.cell? ⟨g, 0 + i * 4 + j, none⟩).isSome = true ∧ W.frozen? ⟨g, 0 + i * 4 + j, none⟩ = false := by
    intro j hj
    rw [hnl] at hj
    have hj' : 0 + i * 4 + j < B.l.length * 4 := by omega
    rw [hownW.cellAt _ hj', List.getElem?_eq_getElem (by rw [hcells_len _ _ hr.len]; exact hj')]
    exact ⟨rfl, hownW.frozenAt _⟩
  have hpos : ¬ g = p := hgp
  have hnil : i + 1 = B.l.length → (flat B.l vs).drop ((i + 1) * 4) = [] := fun e => List.eq_nil_of_length_eq_zero (by rw [hnl, e]; simp)
  have hdat : True := trivial
  have HFL : Hid (∀ k, F k → k < w.heap.size) := Lib.hid fun k hk => hr.lt ((hF k).1 hk)
  have HD := Lib.hid hd
  have hwg0 : ¬ (w.heap.size = g) := by omega
  have hwg : ¬ (w.heap.size + 1 = g) := by omega
  have HN : ∃ nw, nw = (flat B.l vs).drop ((i + 1) * 4) := ⟨_, rfl⟩
  obtain ⟨news, HN⟩ := HN
  rw [← HN] at hnews hnl hone hspare hnil
  have HNN := Lib.hid HN
  clear HN
  by_cases hcp : cap = i + 1
  case' pos =>
    have hlast : i + 1 = B.l.length := by omega
    have hif : ∀ a b : Option Addr, (if cap = i + 1 then a else b) = a := fun a b => if_pos hcp
    have HCP := Lib.hid hcp
    have HL := Lib.hid hlast
    clear hcp hlast
    go_region_law (refine step_append_room rfl (.tmp 19) (.tmp 26) 58 rfl 110 i0 4 Tryz.underlying58 hi0 hz1 g 0 i cap rfl ⟨g, 0, none⟩ (B.l.length - (i + 1)) (cap - (i + 1)) news rfl hnl (fun j u hu => by rw [hnil HL.out] at hu; simp at hu) hone (by omega) hspare ?_; generalize hw2 : World.setCells _ _ _ _ = W2; have x1 : W2.cell? ⟨p, 2, none⟩ = some (.slice (some ⟨g, 0, none⟩) B.l.length cap) := (by rw [← hw2, World.cell?_setCells_out _ _ _ _ _ (fun e => absurd e (Ne.symm hgp))]; exact p2); have x2 : W2.frozen? ⟨p, 2, none⟩ = false := (by rw [← hw2, World.frozen?_setCells]; exact q2))
  case' neg =>
    go_region_law (refine step_append_room rfl (.tmp 19) (.tmp 26) 58 rfl 110 i0 4 Tryz.underlying58 hi0 hz1 g 0 i cap rfl ⟨g, (i + 1) * 4, none⟩ (B.l.length - (i + 1)) (cap - (i + 1)) news rfl hnl hnews hone (by omega) hspare ?_; generalize hw2 : World.setCells _ _ _ _ = W2; have x1 : W2.cell? ⟨p, 2, none⟩ = some (.slice (some ⟨g, 0, none⟩) B.l.length cap) := (by rw [← hw2, World.cell?_setCells_out _ _ _ _ _ (fun e => absurd e (Ne.symm hgp))]; exact p2); have x2 : W2.frozen? ⟨p, 2, none⟩ = false := (by rw [← hw2, World.frozen?_setCells]; exact q2))
  all_goals
    have y0 : W2.cell? ⟨w.heap.size + 1, 0, none⟩ = some (i64 x.id) := by rw [← hw2, World.cell?_setCells_out _ _ _ _ _ (fun e => absurd e hwg)]; exact k0
    have y1 : W2.cell? ⟨w.heap.size + 1, 1, none⟩ = some (i64 x.fr) := by rw [← hw2, World.cell?_setCells_out _ _ _ _ _ (fun e => absurd e hwg)]; exact k1
    have y2 : W2.cell? ⟨w.heap.size + 1, 2, none⟩ = some (i64 x.to) := by rw [← hw2, World.cell?_setCells_out _ _ _ _ _ (fun e => absurd e hwg)]; exact k2
    have y3 : W2.cell? ⟨w.heap.size + 1, 3, none⟩ = some (.slice A x.data.length c) := by rw [← hw2, World.cell?_setCells_out _ _ _ _ _ (fun e => absurd e hwg)]; exact k3
    have z0 : W2.cell? ⟨w.heap.size, 0, none⟩ = some (i64 0) := by rw [← hw2, World.cell?_setCells_out _ _ _ _ _ (fun e => absurd e hwg0)]; exact r0
    have z1 : W2.cell? ⟨w.heap.size, 1, none⟩ = some (i64 0) := by rw [← hw2, World.cell?_setCells_out _ _ _ _ _ (fun e => absurd e hwg0)]; exact r1
    have z2 : W2.cell? ⟨w.heap.size, 2, none⟩ = some (i64 0) := by rw [← hw2, World.cell?_setCells_out _ _ _ _ _ (fun e => absurd e hwg0)]; exact r2
    have z3 : W2.cell? ⟨w.heap.size, 3, none⟩ = some (.slice none 0 0) := by rw [← hw2, World.cell?_setCells_out _ _ _ _ _ (fun e => absurd e hwg0)]; exact r3
    have zf : ∀ o, W2.frozen? ⟨w.heap.size, o, none⟩ = false := fun o => by rw [← hw2, World.frozen?_setCells]; exact RF.out o
    have HW := out_end (g := g) (n' := i + (B.l.length - (i + 1))) (o := 0 + i * 4) hr hF (show Chg Noth w W.drew from chg_drew hC) hx hv hcap news HNN.out (by omega) (by omega)
    rw [hw2] at HW
    have H := Lib.hid HW
    clear HW hw2 hnews hnl hone hspare hnil hr hF hd hown hrW hownW hnp hwg hwg0 r0 r1 r2 r3 hgp hpos x1 x2 s1 s2 s3 s4 s5 s6 s7 s8 s9 k0 k1 k2 k3 p2 q2 hx hv hC
    go_wp2
    obtain ⟨m, F', e1, e2, e3, e4, e5⟩ := H.out
    have hFlt : ∀ k, F' k → k ≠ w.heap.size := fun k hk e => by have := HFL.out k (e3 k hk); omega
    have hAlt : ∀ k, (Value.slice A x.data.length c).ownBlock = some k → k ≠ w.heap.size := fun k hk e => by have := (HD.out.lt k hk).2; omega
    have i10 : HasCell W2 w.heap.size 0 := ⟨by rw [z0]; rfl⟩
    have i11 : HasCell W2 w.heap.size 1 := ⟨by rw [z1]; rfl⟩
    have i12 : HasCell W2 w.heap.size 2 := ⟨by rw [z2]; rfl⟩
    have i13 : HasCell W2 w.heap.size 3 := ⟨by rw [z3]; rfl⟩
    refine bodyPost_ret (v := gv x.id x.fr x.to (.slice A x.data.length c)) (by simp [results, Tryz.results128, go_sem]) rfl ⟨A, c, rfl, ?_⟩
    rw [e1]
    have hcf := chg_set (F := fun k => k = w.heap.size) (chg_set (chg_set (chg_set (Chg.refl _ m.w) w.heap.size 0 (i64 x.id)) w.heap.size 1 (i64 x.fr)) w.heap.size 2 (i64 x.to)) w.heap.size 3 (.slice A x.data.length c)
    exact ⟨own_chg e5 hcf hAlt, ⟨_, m.h.trans hcf (fun i hi e => by omega)⟩, F', rfl, e2.chg hcf hFlt, e3, e4⟩
end Go.Proofs.YteemkceceaabkaaGreat
