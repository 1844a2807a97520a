/- The walks of the book of lists: Bytes, Grams, Gram. -/
import Derived.Test.YteemkceceaabkaaGreatBk
namespace Go.Proofs.YteemkceceaabkaaGreat
open Go.RowKit Go.Ear
set_option maxHeartbeats 1000000
set_option maxRecDepth 40000
/-- 'append(nil, l...)' as a step of a region that draws, whatever l. -/
theorem step_append_copy {P : Program} {ops : Array Oper} {o : Oper} {a : Act} {w : World} {K : Act → World → Prop} {Q : Exit → Act → World → Prop} {E : Prop}
    (hgd : o.guard = none) (s x : Operand) (t : TypeId) (ho : o.op = .call { callee := .builtin .append, args := #[s, x], argTypes := #[t, t] })
    (e : TypeId) (i : TypeInfo) (z : Value) (size bytes : Nat) (ht : P.underlying t = some (.slice e)) (hi : P.info? e = some i) (hz : i.zero = some z)
    (hsize : i.size = size) (hby : i.bytes = bytes) (hzs : z.cells.size = size) (hsz : 0 < size) (hs : a.eval s = .slice none 0 0)
    (v : Value) (n : Nat) (xs : List Value) (hx : a.eval x = v) (hv : SL w v n size xs) (h1 : ∀ u ∈ xs, u.oneCell' = true) (hm : n ≤ maxLen) (hb : n * bytes ≤ 140737488355328)
    (h : ∀ v' w', w'.ownsRow w.heap.size e size v' n xs → w.grownBy w' none → K (a.put o.dst v') w') :
    if Region.wanted o (yielded ops a.tmps) = true then Oper.wp P o a w K Q else E := by
  have hw : Region.wanted o (yielded ops a.tmps) = true := by simp [Region.wanted, hgd]
  rw [if_pos hw]
  have hv0 := hv
  obtain ⟨hxl, A, c, rfl, h0, _⟩ := hv
  rcases A with _ | ad
  · obtain ⟨rfl, rfl⟩ := h0 rfl
    obtain rfl := List.eq_nil_of_length_eq_zero (by simpa using hxl)
    have hrun := run_append_owned_none (P := P) (w := w) w.heap.size t o.type e i size ht hi (.slice none 0 0) 0 [] (World.ownsRow_nil w _ e size)
    unfold Oper.wp
    simp [execOp, ho, resolve, invoke, builtin, hs, hx, hrun, Result.andThen]
    exact h _ _ (World.ownsRow_nil w _ e size) ⟨rfl, rfl, rfl, Nat.le_refl _, fun _ _ _ => rfl⟩
  · obtain ⟨v', w', hrun, r1, r2, _⟩ := run_append_own (P := P) w w.heap.size t o.type e i z size bytes ht hi hz hsize hby hzs hsz (.slice none 0 0) 0 [] (World.ownsRow_nil w _ e size) ad n c xs hxl hv0.addr h1 (by omega) (by simpa using hb) (Nat.le_refl _)
    unfold Oper.wp
    simp [execOp, ho, resolve, invoke, builtin, hs, hx, hrun, Result.andThen]
    exact h v' w' (by simpa using r1) r2


def goodInts (xs : List Value) : Prop := ∃ l : List Int, xs = l.map i64
def goodNotices (xs : List Value) : Prop := ∃ l : List (Int × Int × Int), xs = l.flatMap fun x => [i64 x.1, i64 x.2.1, i64 x.2.2]
def goodBytes (xs : List Value) : Prop := ∃ l : List UInt8, xs = bv l
def goodGrams (xs : List Value) : Prop := ∃ l : List (Int × Int × Int × Option Addr × Nat × Nat), xs = l.flatMap fun x => [i64 x.1, i64 x.2.1, i64 x.2.2.1, .slice x.2.2.2.1 x.2.2.2.2.1 x.2.2.2.2.2]
theorem oneInts {xs : List Value} (h : goodInts xs) : ∀ u ∈ xs, u.oneCell' = true := by
  obtain ⟨l, rfl⟩ := h
  intro u hu
  obtain ⟨x, _, rfl⟩ := List.mem_map.1 hu
  rfl
theorem oneNotices {xs : List Value} (h : goodNotices xs) : ∀ u ∈ xs, u.oneCell' = true := by
  obtain ⟨l, rfl⟩ := h
  intro u hu
  obtain ⟨x, _, hx⟩ := List.mem_flatMap.1 hu
  simp at hx
  rcases hx with rfl | rfl | rfl <;> rfl
theorem oneBytes {xs : List Value} (h : goodBytes xs) : ∀ u ∈ xs, u.oneCell' = true := by
  obtain ⟨l, rfl⟩ := h
  exact bv_one l
theorem oneGrams {xs : List Value} (h : goodGrams xs) : ∀ u ∈ xs, u.oneCell' = true := by
  obtain ⟨l, rfl⟩ := h
  intro u hu
  obtain ⟨x, _, hx⟩ := List.mem_flatMap.1 hu
  simp at hx
  rcases hx with rfl | rfl | rfl | rfl <;> rfl
def noGood (_ : List Value) : Prop := False
/-- The kinds of the book. -/
def KT : List KindT := [⟨29, 3, 1, goodInts⟩, ⟨133, 0, 1, noGood⟩, ⟨135, 0, 1, noGood⟩, ⟨33, 81, 3, goodNotices⟩,
  ⟨68, 5, 1, goodBytes⟩, ⟨137, 0, 1, noGood⟩, ⟨26, 0, 1, noGood⟩, ⟨139, 0, 1, noGood⟩,
  ⟨141, 0, 1, noGood⟩, ⟨58, 110, 4, goodGrams⟩, ⟨143, 0, 1, noGood⟩, ⟨42, 0, 1, noGood⟩]
/-- What a call that puts something into the book leaves: a book, whose blocks are old ones, the list's, or new. -/
def BookTo (p : Nat) (C F : Nat → Prop) (v : Value) (w : World) : Ending → World → Prop := fun e w' =>
  e = .returned (.tuple #[]) ∧ ∃ (m : Muts C w) (C' F' : Nat → Prop), w' = m.w ∧ BookIs KT 53 m.w p C' F' ∧ (∀ k, C' k → C k ∨ w.heap.size ≤ k) ∧ ∀ k, F' k → F k ∨ v.ownBlock = some k ∨ w.heap.size ≤ k
theorem flat_get : ∀ (ks : List Kind) (i : Nat) (k : Kind), ks[i]? = some k → (ks.flatMap fun k => [k.v, k.u]).toArray[2 * i]? = some k.v ∧ (ks.flatMap fun k => [k.v, k.u]).toArray[2 * i + 1]? = some k.u
  | c :: l, 0, k, h => by simp at h; subst h; simp
  | c :: l, i + 1, k, h => by
    have := flat_get l i k (by simpa using h)
    rw [show 2 * (i + 1) = 2 * i + 1 + 1 by omega]
    simpa using this
theorem own_one {w : World} {base n sz : Nat} {e : TypeId} {v : Value} {xs : List Value} (h : w.ownsRow base e sz v n xs) : v.oneCell' = true := by
  obtain ⟨A, c, rfl⟩ := own_shape h
  rfl
theorem info_list : (Tryz.prog.info? 68).map (fun i => (i.zero, i.size, i.bytes)) = some (some (.slice none 0 0), 1, 24) := by kernel_rfl
theorem info_listInts : (Tryz.prog.info? 29).map (fun i => (i.zero, i.size, i.bytes)) = some (some (.slice none 0 0), 1, 24) := by kernel_rfl
theorem infoInts : (Tryz.prog.info? 3).map (fun i => (i.zero, i.size, i.bytes)) = some (some (.int .i64 0), 1, 8) := by kernel_rfl

theorem bookInts_any (p : Nat) (C F : Nat → Prop) (A : Option Addr) (n c : Nat) (xs : List Value) (w : World) (hB : BookIs KT 53 w p C F) (hl : w.ownsRow 0 3 1 (.slice A n c) n xs) (hgd : goodInts xs) (hne : ∀ x, (Value.slice A n c).ownBlock = some x → ¬ F x) (hn : n ≤ 100000) :
    Calls Tryz.prog 16 #[.pointer (some ⟨p, 0, none⟩), .slice A n c] w (BookTo p C F (.slice A n c) w) := by
  have h1c := oneInts hgd
  obtain ⟨ks, hb, hCC, hF⟩ := hB
  have hlen : 0 < ks.length := by rw [hb.len]; decide
  obtain ⟨k, hk⟩ : ∃ k, ks[0]? = some k := ⟨_, List.getElem?_eq_getElem hlen⟩
  have hok := hb.ok 0 _ k rfl hk
  obtain ⟨h4, hv, hu, hits⟩ := hok
  obtain ⟨m, hm⟩ : ∃ m, m = k.its.length := ⟨_, rfl⟩
  have hv : w.ownsRow 0 29 1 k.v m (k.its.map Kept.a) := by rw [hm]; exact hv
  have hu : w.ownsRow 0 29 1 k.u m (k.its.map Kept.b) := by rw [hm]; exact hu
  obtain ⟨A8, c8, ev⟩ := own_shape hv
  obtain ⟨A9, c9, eu⟩ := own_shape hu
  have hblk := hb.heap
  obtain ⟨g8, g9⟩ := flat_get ks 0 k hk
  have c0 : w.cell? ⟨p, 0, none⟩ = some (.slice A8 m c8) := by rw [cell_of_row w p 0 _ _ _ hblk, ← ev]; exact g8
  have c1 : w.cell? ⟨p, 1, none⟩ = some (.slice A9 m c9) := by rw [cell_of_row w p 1 _ _ _ hblk, ← eu]; exact g9
  have hpl : p < w.heap.size := (Array.getElem?_eq_some_iff.1 hblk).1
  have i1 : Old p w := ⟨hpl⟩
  rw [ev] at hv
  rw [eu] at hu
  by_cases h400 : m < 400
  · obtain ⟨i0, hi0, hz0, hz1, hz2⟩ := info_parts info_listInts
    obtain ⟨i2, hi2, hy0, hy1, hy2⟩ := info_parts infoInts
    have hm4 : k.its.length < 400 := by omega
    have HM := Lib.hid hm
    have hpv : ¬ (Value.slice A8 m c8).ownBlock = some p := fun e => by
      have h1 := kcnt_le (p := p) (x := p) hk
      have h2 := hb.apart p
      have h3 := sum_ge (l := ks.map (kcnt p)) (List.mem_map.2 ⟨k, List.mem_of_getElem? hk, rfl⟩)
      have h4 : own1 p k.v = 1 := own1_one (by rw [ev]; exact e)
      have h5 : kcnt p k = own1 p k.v + own1 p k.u + (k.its.map fun it => own1 p it.a + own1 p it.b).sum := rfl
      simp only [bcnt, if_pos] at h2
      omega
    have huv : ∀ x, (Value.slice A8 m c8).ownBlock = some x → (Value.slice A9 m c9).ownBlock = some x → False := fun x e e' => by
      have h1 := kcnt_le (p := p) (x := x) hk
      have h2 := hb.apart x
      have h4 : own1 x k.v = 1 := own1_one (by rw [ev]; exact e)
      have h5 : own1 x k.u = 1 := own1_one (by rw [eu]; exact e')
      have h6 : kcnt x k = own1 x k.v + own1 x k.u + (k.its.map fun it => own1 x it.a + own1 x it.b).sum := rfl
      omega
    have hpu : ¬ (Value.slice A9 m c9).ownBlock = some p := fun e => by
      have h2 := hb.apart p
      have h3 := sum_ge (l := ks.map (kcnt p)) (List.mem_map.2 ⟨k, List.mem_of_getElem? hk, rfl⟩)
      have h4 : own1 p k.u = 1 := own1_one (by rw [eu]; exact e)
      have h5 : kcnt p k = own1 p k.v + own1 p k.u + (k.its.map fun it => own1 p it.a + own1 p it.b).sum := rfl
      simp only [bcnt, if_pos] at h2
      omega
    have hlv : ∀ x, (Value.slice A n c).ownBlock = some x → ¬ (Value.slice A8 m c8).ownBlock = some x := fun x e e' => by
      have h1 := hne x e
      rw [hF] at h1
      have h2 := kcnt_le (p := p) (x := x) hk
      have h4 : own1 x k.v = 1 := own1_one (by rw [ev]; exact e')
      have h6 : kcnt x k = own1 x k.v + own1 x k.u + (k.its.map fun it => own1 x it.a + own1 x it.b).sum := rfl
      omega
    have hlp : ¬ (Value.slice A n c).ownBlock = some p := fun e => by
      have h1 := hne p e
      rw [hF] at h1
      simp only [bcnt, if_pos] at h1
      omega
    have HH := Lib.hid hblk
    have HE := Lib.hid (And.intro ev eu)
    have HL := Lib.hid hl
    have HU := Lib.hid hu
    have HK := Lib.hid hk
    clear hm hblk g8 g9 h4 ev eu hits hl hu hk
    go_enter Tryz.func16, Tryz.ntmps16
    go_wp2_with (at_builtin; (refine wpList_append_lies _ rfl _ _ 40 rfl 0 29 i0 _ 1 24 Tryz.underlying40 hi0 hz0 hz1 hz2 rfl (by decide) (.slice A8 m c8) m (k.its.map Kept.a) rfl (own_chg (F := Noth) hv (by repeat (with_reducible first | exact Chg.refl _ _ | refine chg_m ?_ _ | refine chg_g ?_ _ | refine chg_alloc ?_ _ | refine chg_drew ?_ | refine chg_drewN ?_ _ | refine chg_set ?_ _ _ _)) fun _ _ e => e) ⟨_, 0, none⟩ 1 1 [.slice A n c] rfl rfl (World.news_of_block (cs := #[.slice A n c]) (heap_alloc_hs _ _ _)) (by intro u hu; simp at hu; subst hu; rfl) (by omega) (by simp only [maxLen]; omega) (by omega) (Nat.zero_le _) _ rfl ?_); intro g1 d1 w1 hown1 hg1 hat1 hlt1; have hC1 : Chg (fun x => (Value.slice A8 m c8).ownBlock = some x) w w1 := (show Chg (fun x => (Value.slice A8 m c8).ownBlock = some x) w _ from (by repeat (with_reducible first | exact Chg.refl _ _ | refine chg_m ?_ _ | refine chg_g ?_ _ | refine chg_alloc ?_ _ | refine chg_drew ?_ | refine chg_drewN ?_ _ | refine chg_set ?_ _ _ _))).trans (Chg.of_grown hg1) (fun _ _ e => e); have hb1 := (hC1.block p hpl hpv).trans HH.out; have q1 : w1.frozen? ⟨p, 0, none⟩ = false := frozen_of_row _ _ _ _ _ hb1; have q0 : w1.cell? ⟨p, 0, none⟩ = some (.slice A8 m c8) := (by rw [cell_of_row _ _ 0 _ _ _ hb1, HE.out.1.symm]; exact (flat_get ks 0 k HK.out).1); have k1 : HasCell w1 p 0 := ⟨by rw [q0]; rfl⟩; have j1 : Old p w1 := ⟨Nat.lt_of_lt_of_le hpl hC1.size⟩; have HX := Lib.hid (And.intro hown1 (And.intro hat1 hb1)); clear hown1 hg1 hat1 hb1)
    generalize hW : w1.setCell ⟨p, 0, none⟩ (.slice (some ⟨g1, 0, none⟩) (m + 1) d1) = W
    have hsz : w1.heap.size = W.heap.size := by rw [← hW]; simp [World.setCell]
    have hg1p : g1 ≠ p := fun e => by
      rcases HX.out.2.1 with h | h
      · exact hpv (by rw [h, e])
      · simp at h; omega
    have hCs : Chg (fun x => x = p) w1 W := by rw [← hW]; exact ⟨rfl, rfl, rfl, by simp [World.setCell], fun x _ hx => Below.heap_setCell w1 _ _ x hx⟩
    have hCW : Chg (fun x => x = p ∨ (Value.slice A8 m c8).ownBlock = some x) w W := (hC1.mono (G := fun x => x = p ∨ (Value.slice A8 m c8).ownBlock = some x) fun _ _ h => .inr h).trans hCs fun _ _ h => .inl h
    have hbW := heap_setCell_same w1 p 0 _ _ (.slice (some ⟨g1, 0, none⟩) (m + 1) d1) HX.out.2.2
    rw [hW] at hbW
    have hvW : W.ownsRow 0 29 1 (.slice (some ⟨g1, 0, none⟩) (m + 1) d1) (m + 1) (k.its.map Kept.a ++ [.slice A n c]) := own_chg HX.out.1 hCs fun x hx e => by
      simp [Value.ownBlock] at hx; omega
    have huW : W.ownsRow 0 29 1 (.slice A9 m c9) m (k.its.map Kept.b) := own_chg HU.out hCW fun x hx e => by
      rcases e with rfl | e
      · exact hpu hx
      · exact huv x e hx
    have hlW : W.ownsRow 0 3 1 (.slice A n c) n xs := own_chg HL.out hCW fun x hx e => by
      rcases e with rfl | e
      · exact hlp hx
      · exact hlv x hx e
    have hlS := SL.of_own hlW
    have hs1 := hC1.size
    have hat : (Value.slice A8 m c8).ownBlock = some g1 ∨ w.heap.size ≤ g1 := by
      rcases HX.out.2.1 with h | h
      · exact .inl h
      · simp at h; exact .inr (by omega)
    have hgW : g1 < W.heap.size := by omega
    have hpW : p < W.heap.size := by omega
    have jW : Old p W := ⟨hpW⟩
    have x1 : W.cell? ⟨p, 1, none⟩ = some (.slice A9 m c9) := by
      rw [cell_of_row W p 1 _ _ _ hbW, HE.out.2.symm, Array.getElem?_setIfInBounds_ne (by decide)]; exact (flat_get ks 0 k HK.out).2
    have x2 : W.frozen? ⟨p, 1, none⟩ = false := frozen_of_row _ _ _ _ _ hbW
    have kW : HasCell W p 1 := ⟨by rw [x1]; rfl⟩
    have HB := Lib.hid (And.intro hbW (And.intro hvW (And.intro hlW hCW)))
    have hsW : w.heap.size ≤ W.heap.size := by omega
    clear hW hC1 hCs hCW hbW hvW hlW hsz q0 q1 k1 j1 c0 c1 hlt1 HX hs1
    go_region_law (first
      | ((refine step_append_copy rfl (.const (.slice none 0 0)) (.tmp 25) 29 rfl 3 i2 _ 1 8 Tryz.underlying29 hi2 hy0 hy1 hy2 rfl (by decide) rfl (.slice A n c) n xs rfl (hlS.grow (by repeat (with_reducible first | exact Chg.refl _ _ | refine chg_m ?_ _ | refine chg_g ?_ _ | refine chg_alloc ?_ _ | refine chg_drew ?_ | refine chg_drewN ?_ _ | refine chg_set ?_ _ _ _))) h1c (by simp only [maxLen]; omega) (by omega) ?_); intro b2 w2 hb2 hg2; obtain ⟨A2, c2, rfl⟩ := own_shape hb2; have hC2 : Chg Noth W w2 := (show Chg Noth W _ from (by repeat (with_reducible first | exact Chg.refl _ _ | refine chg_m ?_ _ | refine chg_g ?_ _ | refine chg_alloc ?_ _ | refine chg_drew ?_ | refine chg_drewN ?_ _ | refine chg_set ?_ _ _ _))).trans (Chg.of_grown hg2) (fun _ _ e => by simp at e); have y1 : w2.cell? ⟨p, 1, none⟩ = some (.slice A9 m c9) := (hC2.cell (p := ⟨p, 1, none⟩) hpW fun e => e).trans x1; have y2 : w2.frozen? ⟨p, 1, none⟩ = false := (hC2.frozen (p := ⟨p, 1, none⟩) hpW fun e => e).trans x2; have j2 : Old p w2 := ⟨Nat.lt_of_lt_of_le hpW hC2.size⟩; have k2 : HasCell w2 p 1 := ⟨by rw [y1]; rfl⟩; have hu2 := own_chg huW hC2 fun _ _ e => e; have hsb : W.heap.size ≤ w2.heap.size := hC2.size; have hbW2 : w2.ownsRow W.heap.size 3 1 (.slice A2 n c2) n xs := own_base hb2 (by simp))
      | ((refine step_append_lies _ rfl (.tmp 24) (.tmp 27) 40 rfl 0 29 i0 _ 1 24 Tryz.underlying40 hi0 hz0 hz1 hz2 rfl (by decide) (.slice A9 m c9) m (k.its.map Kept.b) rfl (own_chg (F := Noth) hu2 (by repeat (with_reducible first | exact Chg.refl _ _ | refine chg_m ?_ _ | refine chg_g ?_ _ | refine chg_alloc ?_ _ | refine chg_drew ?_ | refine chg_drewN ?_ _ | refine chg_set ?_ _ _ _)) fun _ _ e => e) ⟨_, 0, none⟩ 1 1 [.slice A2 n c2] rfl rfl (World.news_of_block (cs := #[.slice A2 n c2]) (heap_alloc_hs _ _ _)) (by intro u hu; simp at hu; subst hu; rfl) (by omega) (by simp only [maxLen]; omega) (by omega) (Nat.zero_le _) _ rfl ?_); intro g3 d3 w3 hown3 hg3 hat3 hlt3; have hC3 : Chg (fun x => (Value.slice A9 m c9).ownBlock = some x) w2 w3 := (show Chg (fun x => (Value.slice A9 m c9).ownBlock = some x) w2 _ from (by repeat (with_reducible first | exact Chg.refl _ _ | refine chg_m ?_ _ | refine chg_g ?_ _ | refine chg_alloc ?_ _ | refine chg_drew ?_ | refine chg_drewN ?_ _ | refine chg_set ?_ _ _ _))).trans (Chg.of_grown hg3) (fun _ _ e => e); have z2 : w3.frozen? ⟨p, 1, none⟩ = false := (hC3.frozen (p := ⟨p, 1, none⟩) j2.lt hpu).trans y2; have z1 : w3.cell? ⟨p, 1, none⟩ = some (.slice A9 m c9) := (hC3.cell (p := ⟨p, 1, none⟩) j2.lt hpu).trans y1; have j3 : Old p w3 := ⟨Nat.lt_of_lt_of_le j2.lt hC3.size⟩; have hat4 : (Value.slice A9 m c9).ownBlock = some g3 ∨ w2.heap.size ≤ g3 := (by rcases hat3 with h | h; exact .inl h; simp at h; exact .inr (by omega))))
    all_goals
      have hCs : Chg (fun x => x = p) w3 (w3.setCell ⟨p, 1, none⟩ (.slice (some ⟨g3, 0, none⟩) (m + 1) d3)) := ⟨rfl, rfl, rfl, by simp [World.setCell], fun x _ hx => Below.heap_setCell w3 _ _ x hx⟩
      have hC23 : Chg (fun x => x = p ∨ (Value.slice A9 m c9).ownBlock = some x) w2 (w3.setCell ⟨p, 1, none⟩ (.slice (some ⟨g3, 0, none⟩) (m + 1) d3)) := (hC3.mono (G := fun x => x = p ∨ (Value.slice A9 m c9).ownBlock = some x) fun _ _ h => .inr h).trans hCs fun _ _ h => .inl h
      have hb3 := heap_setCell_same w3 p 1 _ _ (.slice (some ⟨g3, 0, none⟩) (m + 1) d3) (((hC3.block p j2.lt hpu).trans (hC2.block p hpW fun e => e)).trans HB.out.1)
      generalize w3.setCell ⟨p, 1, none⟩ (.slice (some ⟨g3, 0, none⟩) (m + 1) d3) = W4 at *
      obtain ⟨-, hvW, hlW, hCW⟩ := HB.out
      have hC24 : Chg (fun x => x = p ∨ (Value.slice A9 m c9).ownBlock = some x) W W4 := (hC2.mono (G := fun x => x = p ∨ (Value.slice A9 m c9).ownBlock = some x) fun _ _ h => h.elim).trans hC23 fun _ _ h => h
      have hC04 : Chg (fun x => x = p ∨ k.v.ownBlock = some x ∨ k.u.ownBlock = some x) w W4 := by
        rw [HE.out.1, HE.out.2]
        refine (hCW.mono (G := fun x => x = p ∨ (Value.slice A8 m c8).ownBlock = some x ∨ (Value.slice A9 m c9).ownBlock = some x) fun _ _ h => ?_).trans hC24 fun _ _ h => ?_
        · rcases h with h | h
          · exact .inl h
          · exact .inr (.inl h)
        · rcases h with h | h
          · exact .inl h
          · exact .inr (.inr h)
      have hu4 : W4.ownsRow 0 29 1 (.slice (some ⟨g3, 0, none⟩) (m + 1) d3) (m + 1) (k.its.map Kept.b ++ [.slice A2 n c2]) := own_chg hown3 hCs fun x hx e => by
        simp [Value.ownBlock] at hx
        rcases hat4 with h | h
        · exact hpu (by rw [h, hx, e])
        · omega
      have hv4 : W4.ownsRow 0 29 1 (.slice (some ⟨g1, 0, none⟩) (m + 1) d1) (m + 1) (k.its.map Kept.a ++ [.slice A n c]) := own_chg hvW hC24 fun x hx e => by
        simp [Value.ownBlock] at hx
        rcases e with e | e
        · omega
        · rcases hat with h | h
          · exact huv g1 h (by rw [hx]; exact e)
          · have := (HU.out.lt x e).2; omega
      have hb4 : W4.ownsRow w.heap.size 3 1 (.slice A2 n c2) n xs := own_base (own_chg hbW2 hC23 fun x hx e => by
        have h1 := (hbW2.lt x hx).1
        rcases e with e | e
        · omega
        · have := (HU.out.lt x e).2; omega) hsW
      have hg1x : ∀ x, (Value.slice (some ⟨g1, 0, none⟩) (m + 1) d1).ownBlock = some x → x = g1 := fun x hx => by simp [Value.ownBlock] at hx; exact hx.symm
      have hg3x : ∀ x, (Value.slice (some ⟨g3, 0, none⟩) (m + 1) d3).ownBlock = some x → x = g3 := fun x hx => by simp [Value.ownBlock] at hx; exact hx.symm
      have hsW2 : W.heap.size ≤ w2.heap.size := hC2.size
      obtain ⟨H1, H3, H2⟩ := hb.add (i := 0) (t := ⟨29, 3, 1, goodInts⟩) rfl HK.out hm4 (Nat.le_trans hn (by decide)) hgd HL.out (fun x hx => by
          have := hne x hx
          rw [hF] at this
          omega) hC04 (by rw [← HM.out]; exact hv4) (by rw [← HM.out]; exact hu4) hb4
        (fun x hx => by
          rw [HE.out.1, hg1x x hx]; exact hat)
        (fun x hx => by
          rw [HE.out.2, hg3x x hx]
          rcases hat4 with h | h
          · exact .inl h
          · exact .inr (by omega))
        (fun x hx hy hz => by
          have h1 := hg1x x hx
          have h2 := hg3x x hy
          rcases hat4 with h | h
          · have := (HU.out.lt g3 h).2; omega
          · omega)
        (fun x hx hy => by
          have h1 := hg1x x hx
          have := (hbW2.lt x hy).1
          omega)
        (fun x hx hy => by
          have h1 := hg3x x hx
          have h2 := hbW2.lt x hy
          rcases hat4 with h | h
          · have := (HU.out.lt g3 h).2; omega
          · omega)
        (by rw [hb3])
      refine bodyPost_ret (v := .tuple #[]) (by simp [results, Tryz.results16, go_sem]) rfl ⟨rfl, ⟨W4, hC04.mono fun x _ hx => ?_⟩, _, _, rfl, ⟨_, H1, fun _ => Iff.rfl, fun _ => Iff.rfl⟩, fun x hx => ?_, fun x hx => ?_⟩
      · rw [hCC]
        have h2 := sum_ge (l := ks.map fun k => own1 x k.v + own1 x k.u) (List.mem_map.2 ⟨k, List.mem_of_getElem? HK.out, rfl⟩)
        unfold ccnt
        rcases hx with rfl | h | h
        · simp only [if_pos]; omega
        · have := own1_one h; omega
        · have := own1_one h; omega
      · rw [hCC]
        exact H3 x hx
      · rw [hF]
        exact H2 x hx
  · obtain rfl : m = 400 := by omega
    clear hm hblk g8 g9 h4 hits
    go_enter Tryz.func16, Tryz.ntmps16
    go_wp2
    exact bodyPost_ret (v := .tuple #[]) (by simp [results, Tryz.results16, go_sem]) rfl ⟨rfl, ⟨w, Chg.refl _ _⟩, C, F, rfl, ⟨ks, hb, hCC, hF⟩, fun _ h => .inl h, fun _ h => .inl h⟩
theorem info_listNotices : (Tryz.prog.info? 33).map (fun i => (i.zero, i.size, i.bytes)) = some (some (.slice none 0 0), 1, 24) := by kernel_rfl
theorem infoNotices : (Tryz.prog.info? 81).map (fun i => (i.zero, i.size, i.bytes)) = some (some (.agg #[.int .i64 0, .int .i64 0, .int .i64 0]), 3, 24) := by kernel_rfl

theorem bookNotices_any (p : Nat) (C F : Nat → Prop) (A : Option Addr) (n c : Nat) (xs : List Value) (w : World) (hB : BookIs KT 53 w p C F) (hl : w.ownsRow 0 81 3 (.slice A n c) n xs) (hgd : goodNotices xs) (hne : ∀ x, (Value.slice A n c).ownBlock = some x → ¬ F x) (hn : n ≤ 100000) :
    Calls Tryz.prog 17 #[.pointer (some ⟨p, 0, none⟩), .slice A n c] w (BookTo p C F (.slice A n c) w) := by
  have h1c := oneNotices hgd
  obtain ⟨ks, hb, hCC, hF⟩ := hB
  have hlen : 3 < ks.length := by rw [hb.len]; decide
  obtain ⟨k, hk⟩ : ∃ k, ks[3]? = some k := ⟨_, List.getElem?_eq_getElem hlen⟩
  have hok := hb.ok 3 _ k rfl hk
  obtain ⟨h4, hv, hu, hits⟩ := hok
  obtain ⟨m, hm⟩ : ∃ m, m = k.its.length := ⟨_, rfl⟩
  have hv : w.ownsRow 0 33 1 k.v m (k.its.map Kept.a) := by rw [hm]; exact hv
  have hu : w.ownsRow 0 33 1 k.u m (k.its.map Kept.b) := by rw [hm]; exact hu
  obtain ⟨A8, c8, ev⟩ := own_shape hv
  obtain ⟨A9, c9, eu⟩ := own_shape hu
  have hblk := hb.heap
  obtain ⟨g8, g9⟩ := flat_get ks 3 k hk
  have c0 : w.cell? ⟨p, 6, none⟩ = some (.slice A8 m c8) := by rw [cell_of_row w p 6 _ _ _ hblk, ← ev]; exact g8
  have c1 : w.cell? ⟨p, 7, none⟩ = some (.slice A9 m c9) := by rw [cell_of_row w p 7 _ _ _ hblk, ← eu]; exact g9
  have hpl : p < w.heap.size := (Array.getElem?_eq_some_iff.1 hblk).1
  have i1 : Old p w := ⟨hpl⟩
  rw [ev] at hv
  rw [eu] at hu
  by_cases h400 : m < 400
  · obtain ⟨i0, hi0, hz0, hz1, hz2⟩ := info_parts info_listNotices
    obtain ⟨i2, hi2, hy0, hy1, hy2⟩ := info_parts infoNotices
    have hm4 : k.its.length < 400 := by omega
    have HM := Lib.hid hm
    have hpv : ¬ (Value.slice A8 m c8).ownBlock = some p := fun e => by
      have h1 := kcnt_le (p := p) (x := p) hk
      have h2 := hb.apart p
      have h3 := sum_ge (l := ks.map (kcnt p)) (List.mem_map.2 ⟨k, List.mem_of_getElem? hk, rfl⟩)
      have h4 : own1 p k.v = 1 := own1_one (by rw [ev]; exact e)
      have h5 : kcnt p k = own1 p k.v + own1 p k.u + (k.its.map fun it => own1 p it.a + own1 p it.b).sum := rfl
      simp only [bcnt, if_pos] at h2
      omega
    have huv : ∀ x, (Value.slice A8 m c8).ownBlock = some x → (Value.slice A9 m c9).ownBlock = some x → False := fun x e e' => by
      have h1 := kcnt_le (p := p) (x := x) hk
      have h2 := hb.apart x
      have h4 : own1 x k.v = 1 := own1_one (by rw [ev]; exact e)
      have h5 : own1 x k.u = 1 := own1_one (by rw [eu]; exact e')
      have h6 : kcnt x k = own1 x k.v + own1 x k.u + (k.its.map fun it => own1 x it.a + own1 x it.b).sum := rfl
      omega
    have hpu : ¬ (Value.slice A9 m c9).ownBlock = some p := fun e => by
      have h2 := hb.apart p
      have h3 := sum_ge (l := ks.map (kcnt p)) (List.mem_map.2 ⟨k, List.mem_of_getElem? hk, rfl⟩)
      have h4 : own1 p k.u = 1 := own1_one (by rw [eu]; exact e)
      have h5 : kcnt p k = own1 p k.v + own1 p k.u + (k.its.map fun it => own1 p it.a + own1 p it.b).sum := rfl
      simp only [bcnt, if_pos] at h2
      omega
    have hlv : ∀ x, (Value.slice A n c).ownBlock = some x → ¬ (Value.slice A8 m c8).ownBlock = some x := fun x e e' => by
      have h1 := hne x e
      rw [hF] at h1
      have h2 := kcnt_le (p := p) (x := x) hk
      have h4 : own1 x k.v = 1 := own1_one (by rw [ev]; exact e')
      have h6 : kcnt x k = own1 x k.v + own1 x k.u + (k.its.map fun it => own1 x it.a + own1 x it.b).sum := rfl
      omega
    have hlp : ¬ (Value.slice A n c).ownBlock = some p := fun e => by
      have h1 := hne p e
      rw [hF] at h1
      simp only [bcnt, if_pos] at h1
      omega
    have HH := Lib.hid hblk
    have HE := Lib.hid (And.intro ev eu)
    have HL := Lib.hid hl
    have HU := Lib.hid hu
    have HK := Lib.hid hk
    clear hm hblk g8 g9 h4 ev eu hits hl hu hk
    go_enter Tryz.func17, Tryz.ntmps17
    go_wp2_with (at_builtin; (refine wpList_append_lies _ rfl _ _ 43 rfl 0 33 i0 _ 1 24 Tryz.underlying43 hi0 hz0 hz1 hz2 rfl (by decide) (.slice A8 m c8) m (k.its.map Kept.a) rfl (own_chg (F := Noth) hv (by repeat (with_reducible first | exact Chg.refl _ _ | refine chg_m ?_ _ | refine chg_g ?_ _ | refine chg_alloc ?_ _ | refine chg_drew ?_ | refine chg_drewN ?_ _ | refine chg_set ?_ _ _ _)) fun _ _ e => e) ⟨_, 0, none⟩ 1 1 [.slice A n c] rfl rfl (World.news_of_block (cs := #[.slice A n c]) (heap_alloc_hs _ _ _)) (by intro u hu; simp at hu; subst hu; rfl) (by omega) (by simp only [maxLen]; omega) (by omega) (Nat.zero_le _) _ rfl ?_); intro g1 d1 w1 hown1 hg1 hat1 hlt1; have hC1 : Chg (fun x => (Value.slice A8 m c8).ownBlock = some x) w w1 := (show Chg (fun x => (Value.slice A8 m c8).ownBlock = some x) w _ from (by repeat (with_reducible first | exact Chg.refl _ _ | refine chg_m ?_ _ | refine chg_g ?_ _ | refine chg_alloc ?_ _ | refine chg_drew ?_ | refine chg_drewN ?_ _ | refine chg_set ?_ _ _ _))).trans (Chg.of_grown hg1) (fun _ _ e => e); have hb1 := (hC1.block p hpl hpv).trans HH.out; have q1 : w1.frozen? ⟨p, 6, none⟩ = false := frozen_of_row _ _ _ _ _ hb1; have q0 : w1.cell? ⟨p, 6, none⟩ = some (.slice A8 m c8) := (by rw [cell_of_row _ _ 6 _ _ _ hb1, HE.out.1.symm]; exact (flat_get ks 3 k HK.out).1); have k1 : HasCell w1 p 6 := ⟨by rw [q0]; rfl⟩; have j1 : Old p w1 := ⟨Nat.lt_of_lt_of_le hpl hC1.size⟩; have HX := Lib.hid (And.intro hown1 (And.intro hat1 hb1)); clear hown1 hg1 hat1 hb1)
    generalize hW : w1.setCell ⟨p, 6, none⟩ (.slice (some ⟨g1, 0, none⟩) (m + 1) d1) = W
    have hsz : w1.heap.size = W.heap.size := by rw [← hW]; simp [World.setCell]
    have hg1p : g1 ≠ p := fun e => by
      rcases HX.out.2.1 with h | h
      · exact hpv (by rw [h, e])
      · simp at h; omega
    have hCs : Chg (fun x => x = p) w1 W := by rw [← hW]; exact ⟨rfl, rfl, rfl, by simp [World.setCell], fun x _ hx => Below.heap_setCell w1 _ _ x hx⟩
    have hCW : Chg (fun x => x = p ∨ (Value.slice A8 m c8).ownBlock = some x) w W := (hC1.mono (G := fun x => x = p ∨ (Value.slice A8 m c8).ownBlock = some x) fun _ _ h => .inr h).trans hCs fun _ _ h => .inl h
    have hbW := heap_setCell_same w1 p 6 _ _ (.slice (some ⟨g1, 0, none⟩) (m + 1) d1) HX.out.2.2
    rw [hW] at hbW
    have hvW : W.ownsRow 0 33 1 (.slice (some ⟨g1, 0, none⟩) (m + 1) d1) (m + 1) (k.its.map Kept.a ++ [.slice A n c]) := own_chg HX.out.1 hCs fun x hx e => by
      simp [Value.ownBlock] at hx; omega
    have huW : W.ownsRow 0 33 1 (.slice A9 m c9) m (k.its.map Kept.b) := own_chg HU.out hCW fun x hx e => by
      rcases e with rfl | e
      · exact hpu hx
      · exact huv x e hx
    have hlW : W.ownsRow 0 81 3 (.slice A n c) n xs := own_chg HL.out hCW fun x hx e => by
      rcases e with rfl | e
      · exact hlp hx
      · exact hlv x hx e
    have hlS := SL.of_own hlW
    have hs1 := hC1.size
    have hat : (Value.slice A8 m c8).ownBlock = some g1 ∨ w.heap.size ≤ g1 := by
      rcases HX.out.2.1 with h | h
      · exact .inl h
      · simp at h; exact .inr (by omega)
    have hgW : g1 < W.heap.size := by omega
    have hpW : p < W.heap.size := by omega
    have jW : Old p W := ⟨hpW⟩
    have x1 : W.cell? ⟨p, 7, none⟩ = some (.slice A9 m c9) := by
      rw [cell_of_row W p 7 _ _ _ hbW, HE.out.2.symm, Array.getElem?_setIfInBounds_ne (by decide)]; exact (flat_get ks 3 k HK.out).2
    have x2 : W.frozen? ⟨p, 7, none⟩ = false := frozen_of_row _ _ _ _ _ hbW
    have kW : HasCell W p 7 := ⟨by rw [x1]; rfl⟩
    have HB := Lib.hid (And.intro hbW (And.intro hvW (And.intro hlW hCW)))
    have hsW : w.heap.size ≤ W.heap.size := by omega
    clear hW hC1 hCs hCW hbW hvW hlW hsz q0 q1 k1 j1 c0 c1 hlt1 HX hs1
    go_region_law (first
      | ((refine step_append_copy rfl (.const (.slice none 0 0)) (.tmp 25) 33 rfl 81 i2 _ 3 24 Tryz.underlying33 hi2 hy0 hy1 hy2 rfl (by decide) rfl (.slice A n c) n xs rfl (hlS.grow (by repeat (with_reducible first | exact Chg.refl _ _ | refine chg_m ?_ _ | refine chg_g ?_ _ | refine chg_alloc ?_ _ | refine chg_drew ?_ | refine chg_drewN ?_ _ | refine chg_set ?_ _ _ _))) h1c (by simp only [maxLen]; omega) (by omega) ?_); intro b2 w2 hb2 hg2; obtain ⟨A2, c2, rfl⟩ := own_shape hb2; have hC2 : Chg Noth W w2 := (show Chg Noth W _ from (by repeat (with_reducible first | exact Chg.refl _ _ | refine chg_m ?_ _ | refine chg_g ?_ _ | refine chg_alloc ?_ _ | refine chg_drew ?_ | refine chg_drewN ?_ _ | refine chg_set ?_ _ _ _))).trans (Chg.of_grown hg2) (fun _ _ e => by simp at e); have y1 : w2.cell? ⟨p, 7, none⟩ = some (.slice A9 m c9) := (hC2.cell (p := ⟨p, 7, none⟩) hpW fun e => e).trans x1; have y2 : w2.frozen? ⟨p, 7, none⟩ = false := (hC2.frozen (p := ⟨p, 7, none⟩) hpW fun e => e).trans x2; have j2 : Old p w2 := ⟨Nat.lt_of_lt_of_le hpW hC2.size⟩; have k2 : HasCell w2 p 7 := ⟨by rw [y1]; rfl⟩; have hu2 := own_chg huW hC2 fun _ _ e => e; have hsb : W.heap.size ≤ w2.heap.size := hC2.size; have hbW2 : w2.ownsRow W.heap.size 81 3 (.slice A2 n c2) n xs := own_base hb2 (by simp))
      | ((refine step_append_lies _ rfl (.tmp 24) (.tmp 27) 43 rfl 0 33 i0 _ 1 24 Tryz.underlying43 hi0 hz0 hz1 hz2 rfl (by decide) (.slice A9 m c9) m (k.its.map Kept.b) rfl (own_chg (F := Noth) hu2 (by repeat (with_reducible first | exact Chg.refl _ _ | refine chg_m ?_ _ | refine chg_g ?_ _ | refine chg_alloc ?_ _ | refine chg_drew ?_ | refine chg_drewN ?_ _ | refine chg_set ?_ _ _ _)) fun _ _ e => e) ⟨_, 0, none⟩ 1 1 [.slice A2 n c2] rfl rfl (World.news_of_block (cs := #[.slice A2 n c2]) (heap_alloc_hs _ _ _)) (by intro u hu; simp at hu; subst hu; rfl) (by omega) (by simp only [maxLen]; omega) (by omega) (Nat.zero_le _) _ rfl ?_); intro g3 d3 w3 hown3 hg3 hat3 hlt3; have hC3 : Chg (fun x => (Value.slice A9 m c9).ownBlock = some x) w2 w3 := (show Chg (fun x => (Value.slice A9 m c9).ownBlock = some x) w2 _ from (by repeat (with_reducible first | exact Chg.refl _ _ | refine chg_m ?_ _ | refine chg_g ?_ _ | refine chg_alloc ?_ _ | refine chg_drew ?_ | refine chg_drewN ?_ _ | refine chg_set ?_ _ _ _))).trans (Chg.of_grown hg3) (fun _ _ e => e); have z2 : w3.frozen? ⟨p, 7, none⟩ = false := (hC3.frozen (p := ⟨p, 7, none⟩) j2.lt hpu).trans y2; have z1 : w3.cell? ⟨p, 7, none⟩ = some (.slice A9 m c9) := (hC3.cell (p := ⟨p, 7, none⟩) j2.lt hpu).trans y1; have j3 : Old p w3 := ⟨Nat.lt_of_lt_of_le j2.lt hC3.size⟩; have hat4 : (Value.slice A9 m c9).ownBlock = some g3 ∨ w2.heap.size ≤ g3 := (by rcases hat3 with h | h; exact .inl h; simp at h; exact .inr (by omega))))
    all_goals
      have hCs : Chg (fun x => x = p) w3 (w3.setCell ⟨p, 7, none⟩ (.slice (some ⟨g3, 0, none⟩) (m + 1) d3)) := ⟨rfl, rfl, rfl, by simp [World.setCell], fun x _ hx => Below.heap_setCell w3 _ _ x hx⟩
      have hC23 : Chg (fun x => x = p ∨ (Value.slice A9 m c9).ownBlock = some x) w2 (w3.setCell ⟨p, 7, none⟩ (.slice (some ⟨g3, 0, none⟩) (m + 1) d3)) := (hC3.mono (G := fun x => x = p ∨ (Value.slice A9 m c9).ownBlock = some x) fun _ _ h => .inr h).trans hCs fun _ _ h => .inl h
      have hb3 := heap_setCell_same w3 p 7 _ _ (.slice (some ⟨g3, 0, none⟩) (m + 1) d3) (((hC3.block p j2.lt hpu).trans (hC2.block p hpW fun e => e)).trans HB.out.1)
      generalize w3.setCell ⟨p, 7, none⟩ (.slice (some ⟨g3, 0, none⟩) (m + 1) d3) = W4 at *
      obtain ⟨-, hvW, hlW, hCW⟩ := HB.out
      have hC24 : Chg (fun x => x = p ∨ (Value.slice A9 m c9).ownBlock = some x) W W4 := (hC2.mono (G := fun x => x = p ∨ (Value.slice A9 m c9).ownBlock = some x) fun _ _ h => h.elim).trans hC23 fun _ _ h => h
      have hC04 : Chg (fun x => x = p ∨ k.v.ownBlock = some x ∨ k.u.ownBlock = some x) w W4 := by
        rw [HE.out.1, HE.out.2]
        refine (hCW.mono (G := fun x => x = p ∨ (Value.slice A8 m c8).ownBlock = some x ∨ (Value.slice A9 m c9).ownBlock = some x) fun _ _ h => ?_).trans hC24 fun _ _ h => ?_
        · rcases h with h | h
          · exact .inl h
          · exact .inr (.inl h)
        · rcases h with h | h
          · exact .inl h
          · exact .inr (.inr h)
      have hu4 : W4.ownsRow 0 33 1 (.slice (some ⟨g3, 0, none⟩) (m + 1) d3) (m + 1) (k.its.map Kept.b ++ [.slice A2 n c2]) := own_chg hown3 hCs fun x hx e => by
        simp [Value.ownBlock] at hx
        rcases hat4 with h | h
        · exact hpu (by rw [h, hx, e])
        · omega
      have hv4 : W4.ownsRow 0 33 1 (.slice (some ⟨g1, 0, none⟩) (m + 1) d1) (m + 1) (k.its.map Kept.a ++ [.slice A n c]) := own_chg hvW hC24 fun x hx e => by
        simp [Value.ownBlock] at hx
        rcases e with e | e
        · omega
        · rcases hat with h | h
          · exact huv g1 h (by rw [hx]; exact e)
          · have := (HU.out.lt x e).2; omega
      have hb4 : W4.ownsRow w.heap.size 81 3 (.slice A2 n c2) n xs := own_base (own_chg hbW2 hC23 fun x hx e => by
        have h1 := (hbW2.lt x hx).1
        rcases e with e | e
        · omega
        · have := (HU.out.lt x e).2; omega) hsW
      have hg1x : ∀ x, (Value.slice (some ⟨g1, 0, none⟩) (m + 1) d1).ownBlock = some x → x = g1 := fun x hx => by simp [Value.ownBlock] at hx; exact hx.symm
      have hg3x : ∀ x, (Value.slice (some ⟨g3, 0, none⟩) (m + 1) d3).ownBlock = some x → x = g3 := fun x hx => by simp [Value.ownBlock] at hx; exact hx.symm
      have hsW2 : W.heap.size ≤ w2.heap.size := hC2.size
      obtain ⟨H1, H3, H2⟩ := hb.add (i := 3) (t := ⟨33, 81, 3, goodNotices⟩) rfl HK.out hm4 (Nat.le_trans hn (by decide)) hgd HL.out (fun x hx => by
          have := hne x hx
          rw [hF] at this
          omega) hC04 (by rw [← HM.out]; exact hv4) (by rw [← HM.out]; exact hu4) hb4
        (fun x hx => by
          rw [HE.out.1, hg1x x hx]; exact hat)
        (fun x hx => by
          rw [HE.out.2, hg3x x hx]
          rcases hat4 with h | h
          · exact .inl h
          · exact .inr (by omega))
        (fun x hx hy hz => by
          have h1 := hg1x x hx
          have h2 := hg3x x hy
          rcases hat4 with h | h
          · have := (HU.out.lt g3 h).2; omega
          · omega)
        (fun x hx hy => by
          have h1 := hg1x x hx
          have := (hbW2.lt x hy).1
          omega)
        (fun x hx hy => by
          have h1 := hg3x x hx
          have h2 := hbW2.lt x hy
          rcases hat4 with h | h
          · have := (HU.out.lt g3 h).2; omega
          · omega)
        (by rw [hb3])
      refine bodyPost_ret (v := .tuple #[]) (by simp [results, Tryz.results17, go_sem]) rfl ⟨rfl, ⟨W4, hC04.mono fun x _ hx => ?_⟩, _, _, rfl, ⟨_, H1, fun _ => Iff.rfl, fun _ => Iff.rfl⟩, fun x hx => ?_, fun x hx => ?_⟩
      · rw [hCC]
        have h2 := sum_ge (l := ks.map fun k => own1 x k.v + own1 x k.u) (List.mem_map.2 ⟨k, List.mem_of_getElem? HK.out, rfl⟩)
        unfold ccnt
        rcases hx with rfl | h | h
        · simp only [if_pos]; omega
        · have := own1_one h; omega
        · have := own1_one h; omega
      · rw [hCC]
        exact H3 x hx
      · rw [hF]
        exact H2 x hx
  · obtain rfl : m = 400 := by omega
    clear hm hblk g8 g9 h4 hits
    go_enter Tryz.func17, Tryz.ntmps17
    go_wp2
    exact bodyPost_ret (v := .tuple #[]) (by simp [results, Tryz.results17, go_sem]) rfl ⟨rfl, ⟨w, Chg.refl _ _⟩, C, F, rfl, ⟨ks, hb, hCC, hF⟩, fun _ h => .inl h, fun _ h => .inl h⟩
theorem infoBytes : (Tryz.prog.info? 5).map (fun i => (i.zero, i.size, i.bytes)) = some (some (.int .u8 0), 1, 1) := by kernel_rfl

theorem bookBytes_any (p : Nat) (C F : Nat → Prop) (A : Option Addr) (n c : Nat) (xs : List Value) (w : World) (hB : BookIs KT 53 w p C F) (hl : w.ownsRow 0 5 1 (.slice A n c) n xs) (hgd : goodBytes xs) (hne : ∀ x, (Value.slice A n c).ownBlock = some x → ¬ F x) (hn : n ≤ 100000) :
    Calls Tryz.prog 84 #[.pointer (some ⟨p, 0, none⟩), .slice A n c] w (BookTo p C F (.slice A n c) w) := by
  have h1c := oneBytes hgd
  obtain ⟨ks, hb, hCC, hF⟩ := hB
  have hlen : 4 < ks.length := by rw [hb.len]; decide
  obtain ⟨k, hk⟩ : ∃ k, ks[4]? = some k := ⟨_, List.getElem?_eq_getElem hlen⟩
  have hok := hb.ok 4 _ k rfl hk
  obtain ⟨h4, hv, hu, hits⟩ := hok
  obtain ⟨m, hm⟩ : ∃ m, m = k.its.length := ⟨_, rfl⟩
  have hv : w.ownsRow 0 68 1 k.v m (k.its.map Kept.a) := by rw [hm]; exact hv
  have hu : w.ownsRow 0 68 1 k.u m (k.its.map Kept.b) := by rw [hm]; exact hu
  obtain ⟨A8, c8, ev⟩ := own_shape hv
  obtain ⟨A9, c9, eu⟩ := own_shape hu
  have hblk := hb.heap
  obtain ⟨g8, g9⟩ := flat_get ks 4 k hk
  have c0 : w.cell? ⟨p, 8, none⟩ = some (.slice A8 m c8) := by rw [cell_of_row w p 8 _ _ _ hblk, ← ev]; exact g8
  have c1 : w.cell? ⟨p, 9, none⟩ = some (.slice A9 m c9) := by rw [cell_of_row w p 9 _ _ _ hblk, ← eu]; exact g9
  have hpl : p < w.heap.size := (Array.getElem?_eq_some_iff.1 hblk).1
  have i1 : Old p w := ⟨hpl⟩
  rw [ev] at hv
  rw [eu] at hu
  by_cases h400 : m < 400
  · obtain ⟨i0, hi0, hz0, hz1, hz2⟩ := info_parts info_list
    obtain ⟨i2, hi2, hy0, hy1, hy2⟩ := info_parts infoBytes
    have hm4 : k.its.length < 400 := by omega
    have HM := Lib.hid hm
    have hpv : ¬ (Value.slice A8 m c8).ownBlock = some p := fun e => by
      have h1 := kcnt_le (p := p) (x := p) hk
      have h2 := hb.apart p
      have h3 := sum_ge (l := ks.map (kcnt p)) (List.mem_map.2 ⟨k, List.mem_of_getElem? hk, rfl⟩)
      have h4 : own1 p k.v = 1 := own1_one (by rw [ev]; exact e)
      have h5 : kcnt p k = own1 p k.v + own1 p k.u + (k.its.map fun it => own1 p it.a + own1 p it.b).sum := rfl
      simp only [bcnt, if_pos] at h2
      omega
    have huv : ∀ x, (Value.slice A8 m c8).ownBlock = some x → (Value.slice A9 m c9).ownBlock = some x → False := fun x e e' => by
      have h1 := kcnt_le (p := p) (x := x) hk
      have h2 := hb.apart x
      have h4 : own1 x k.v = 1 := own1_one (by rw [ev]; exact e)
      have h5 : own1 x k.u = 1 := own1_one (by rw [eu]; exact e')
      have h6 : kcnt x k = own1 x k.v + own1 x k.u + (k.its.map fun it => own1 x it.a + own1 x it.b).sum := rfl
      omega
    have hpu : ¬ (Value.slice A9 m c9).ownBlock = some p := fun e => by
      have h2 := hb.apart p
      have h3 := sum_ge (l := ks.map (kcnt p)) (List.mem_map.2 ⟨k, List.mem_of_getElem? hk, rfl⟩)
      have h4 : own1 p k.u = 1 := own1_one (by rw [eu]; exact e)
      have h5 : kcnt p k = own1 p k.v + own1 p k.u + (k.its.map fun it => own1 p it.a + own1 p it.b).sum := rfl
      simp only [bcnt, if_pos] at h2
      omega
    have hlv : ∀ x, (Value.slice A n c).ownBlock = some x → ¬ (Value.slice A8 m c8).ownBlock = some x := fun x e e' => by
      have h1 := hne x e
      rw [hF] at h1
      have h2 := kcnt_le (p := p) (x := x) hk
      have h4 : own1 x k.v = 1 := own1_one (by rw [ev]; exact e')
      have h6 : kcnt x k = own1 x k.v + own1 x k.u + (k.its.map fun it => own1 x it.a + own1 x it.b).sum := rfl
      omega
    have hlp : ¬ (Value.slice A n c).ownBlock = some p := fun e => by
      have h1 := hne p e
      rw [hF] at h1
      simp only [bcnt, if_pos] at h1
      omega
    have HH := Lib.hid hblk
    have HE := Lib.hid (And.intro ev eu)
    have HL := Lib.hid hl
    have HU := Lib.hid hu
    have HK := Lib.hid hk
    clear hm hblk g8 g9 h4 ev eu hits hl hu hk
    go_enter Tryz.func84, Tryz.ntmps84
    go_wp2_with (at_builtin; (refine wpList_append_lies _ rfl _ _ 44 rfl 0 68 i0 _ 1 24 Tryz.underlying44 hi0 hz0 hz1 hz2 rfl (by decide) (.slice A8 m c8) m (k.its.map Kept.a) rfl (own_chg (F := Noth) hv (by repeat (with_reducible first | exact Chg.refl _ _ | refine chg_m ?_ _ | refine chg_g ?_ _ | refine chg_alloc ?_ _ | refine chg_drew ?_ | refine chg_drewN ?_ _ | refine chg_set ?_ _ _ _)) fun _ _ e => e) ⟨_, 0, none⟩ 1 1 [.slice A n c] rfl rfl (World.news_of_block (cs := #[.slice A n c]) (heap_alloc_hs _ _ _)) (by intro u hu; simp at hu; subst hu; rfl) (by omega) (by simp only [maxLen]; omega) (by omega) (Nat.zero_le _) _ rfl ?_); intro g1 d1 w1 hown1 hg1 hat1 hlt1; have hC1 : Chg (fun x => (Value.slice A8 m c8).ownBlock = some x) w w1 := (show Chg (fun x => (Value.slice A8 m c8).ownBlock = some x) w _ from (by repeat (with_reducible first | exact Chg.refl _ _ | refine chg_m ?_ _ | refine chg_g ?_ _ | refine chg_alloc ?_ _ | refine chg_drew ?_ | refine chg_drewN ?_ _ | refine chg_set ?_ _ _ _))).trans (Chg.of_grown hg1) (fun _ _ e => e); have hb1 := (hC1.block p hpl hpv).trans HH.out; have q1 : w1.frozen? ⟨p, 8, none⟩ = false := frozen_of_row _ _ _ _ _ hb1; have q0 : w1.cell? ⟨p, 8, none⟩ = some (.slice A8 m c8) := (by rw [cell_of_row _ _ 8 _ _ _ hb1, HE.out.1.symm]; exact (flat_get ks 4 k HK.out).1); have k1 : HasCell w1 p 8 := ⟨by rw [q0]; rfl⟩; have j1 : Old p w1 := ⟨Nat.lt_of_lt_of_le hpl hC1.size⟩; have HX := Lib.hid (And.intro hown1 (And.intro hat1 hb1)); clear hown1 hg1 hat1 hb1)
    generalize hW : w1.setCell ⟨p, 8, none⟩ (.slice (some ⟨g1, 0, none⟩) (m + 1) d1) = W
    have hsz : w1.heap.size = W.heap.size := by rw [← hW]; simp [World.setCell]
    have hg1p : g1 ≠ p := fun e => by
      rcases HX.out.2.1 with h | h
      · exact hpv (by rw [h, e])
      · simp at h; omega
    have hCs : Chg (fun x => x = p) w1 W := by rw [← hW]; exact ⟨rfl, rfl, rfl, by simp [World.setCell], fun x _ hx => Below.heap_setCell w1 _ _ x hx⟩
    have hCW : Chg (fun x => x = p ∨ (Value.slice A8 m c8).ownBlock = some x) w W := (hC1.mono (G := fun x => x = p ∨ (Value.slice A8 m c8).ownBlock = some x) fun _ _ h => .inr h).trans hCs fun _ _ h => .inl h
    have hbW := heap_setCell_same w1 p 8 _ _ (.slice (some ⟨g1, 0, none⟩) (m + 1) d1) HX.out.2.2
    rw [hW] at hbW
    have hvW : W.ownsRow 0 68 1 (.slice (some ⟨g1, 0, none⟩) (m + 1) d1) (m + 1) (k.its.map Kept.a ++ [.slice A n c]) := own_chg HX.out.1 hCs fun x hx e => by
      simp [Value.ownBlock] at hx; omega
    have huW : W.ownsRow 0 68 1 (.slice A9 m c9) m (k.its.map Kept.b) := own_chg HU.out hCW fun x hx e => by
      rcases e with rfl | e
      · exact hpu hx
      · exact huv x e hx
    have hlW : W.ownsRow 0 5 1 (.slice A n c) n xs := own_chg HL.out hCW fun x hx e => by
      rcases e with rfl | e
      · exact hlp hx
      · exact hlv x hx e
    have hlS := SL.of_own hlW
    have hs1 := hC1.size
    have hat : (Value.slice A8 m c8).ownBlock = some g1 ∨ w.heap.size ≤ g1 := by
      rcases HX.out.2.1 with h | h
      · exact .inl h
      · simp at h; exact .inr (by omega)
    have hgW : g1 < W.heap.size := by omega
    have hpW : p < W.heap.size := by omega
    have jW : Old p W := ⟨hpW⟩
    have x1 : W.cell? ⟨p, 9, none⟩ = some (.slice A9 m c9) := by
      rw [cell_of_row W p 9 _ _ _ hbW, HE.out.2.symm, Array.getElem?_setIfInBounds_ne (by decide)]; exact (flat_get ks 4 k HK.out).2
    have x2 : W.frozen? ⟨p, 9, none⟩ = false := frozen_of_row _ _ _ _ _ hbW
    have kW : HasCell W p 9 := ⟨by rw [x1]; rfl⟩
    have HB := Lib.hid (And.intro hbW (And.intro hvW (And.intro hlW hCW)))
    have hsW : w.heap.size ≤ W.heap.size := by omega
    clear hW hC1 hCs hCW hbW hvW hlW hsz q0 q1 k1 j1 c0 c1 hlt1 HX hs1
    go_region_law (first
      | ((refine step_append_copy rfl (.const (.slice none 0 0)) (.tmp 25) 68 rfl 5 i2 _ 1 1 Tryz.underlying68 hi2 hy0 hy1 hy2 rfl (by decide) rfl (.slice A n c) n xs rfl (hlS.grow (by repeat (with_reducible first | exact Chg.refl _ _ | refine chg_m ?_ _ | refine chg_g ?_ _ | refine chg_alloc ?_ _ | refine chg_drew ?_ | refine chg_drewN ?_ _ | refine chg_set ?_ _ _ _))) h1c (by simp only [maxLen]; omega) (by omega) ?_); intro b2 w2 hb2 hg2; obtain ⟨A2, c2, rfl⟩ := own_shape hb2; have hC2 : Chg Noth W w2 := (show Chg Noth W _ from (by repeat (with_reducible first | exact Chg.refl _ _ | refine chg_m ?_ _ | refine chg_g ?_ _ | refine chg_alloc ?_ _ | refine chg_drew ?_ | refine chg_drewN ?_ _ | refine chg_set ?_ _ _ _))).trans (Chg.of_grown hg2) (fun _ _ e => by simp at e); have y1 : w2.cell? ⟨p, 9, none⟩ = some (.slice A9 m c9) := (hC2.cell (p := ⟨p, 9, none⟩) hpW fun e => e).trans x1; have y2 : w2.frozen? ⟨p, 9, none⟩ = false := (hC2.frozen (p := ⟨p, 9, none⟩) hpW fun e => e).trans x2; have j2 : Old p w2 := ⟨Nat.lt_of_lt_of_le hpW hC2.size⟩; have k2 : HasCell w2 p 9 := ⟨by rw [y1]; rfl⟩; have hu2 := own_chg huW hC2 fun _ _ e => e; have hsb : W.heap.size ≤ w2.heap.size := hC2.size; have hbW2 : w2.ownsRow W.heap.size 5 1 (.slice A2 n c2) n xs := own_base hb2 (by simp))
      | ((refine step_append_lies _ rfl (.tmp 24) (.tmp 27) 44 rfl 0 68 i0 _ 1 24 Tryz.underlying44 hi0 hz0 hz1 hz2 rfl (by decide) (.slice A9 m c9) m (k.its.map Kept.b) rfl (own_chg (F := Noth) hu2 (by repeat (with_reducible first | exact Chg.refl _ _ | refine chg_m ?_ _ | refine chg_g ?_ _ | refine chg_alloc ?_ _ | refine chg_drew ?_ | refine chg_drewN ?_ _ | refine chg_set ?_ _ _ _)) fun _ _ e => e) ⟨_, 0, none⟩ 1 1 [.slice A2 n c2] rfl rfl (World.news_of_block (cs := #[.slice A2 n c2]) (heap_alloc_hs _ _ _)) (by intro u hu; simp at hu; subst hu; rfl) (by omega) (by simp only [maxLen]; omega) (by omega) (Nat.zero_le _) _ rfl ?_); intro g3 d3 w3 hown3 hg3 hat3 hlt3; have hC3 : Chg (fun x => (Value.slice A9 m c9).ownBlock = some x) w2 w3 := (show Chg (fun x => (Value.slice A9 m c9).ownBlock = some x) w2 _ from (by repeat (with_reducible first | exact Chg.refl _ _ | refine chg_m ?_ _ | refine chg_g ?_ _ | refine chg_alloc ?_ _ | refine chg_drew ?_ | refine chg_drewN ?_ _ | refine chg_set ?_ _ _ _))).trans (Chg.of_grown hg3) (fun _ _ e => e); have z2 : w3.frozen? ⟨p, 9, none⟩ = false := (hC3.frozen (p := ⟨p, 9, none⟩) j2.lt hpu).trans y2; have z1 : w3.cell? ⟨p, 9, none⟩ = some (.slice A9 m c9) := (hC3.cell (p := ⟨p, 9, none⟩) j2.lt hpu).trans y1; have j3 : Old p w3 := ⟨Nat.lt_of_lt_of_le j2.lt hC3.size⟩; have hat4 : (Value.slice A9 m c9).ownBlock = some g3 ∨ w2.heap.size ≤ g3 := (by rcases hat3 with h | h; exact .inl h; simp at h; exact .inr (by omega))))
    all_goals
      have hCs : Chg (fun x => x = p) w3 (w3.setCell ⟨p, 9, none⟩ (.slice (some ⟨g3, 0, none⟩) (m + 1) d3)) := ⟨rfl, rfl, rfl, by simp [World.setCell], fun x _ hx => Below.heap_setCell w3 _ _ x hx⟩
      have hC23 : Chg (fun x => x = p ∨ (Value.slice A9 m c9).ownBlock = some x) w2 (w3.setCell ⟨p, 9, none⟩ (.slice (some ⟨g3, 0, none⟩) (m + 1) d3)) := (hC3.mono (G := fun x => x = p ∨ (Value.slice A9 m c9).ownBlock = some x) fun _ _ h => .inr h).trans hCs fun _ _ h => .inl h
      have hb3 := heap_setCell_same w3 p 9 _ _ (.slice (some ⟨g3, 0, none⟩) (m + 1) d3) (((hC3.block p j2.lt hpu).trans (hC2.block p hpW fun e => e)).trans HB.out.1)
      generalize w3.setCell ⟨p, 9, none⟩ (.slice (some ⟨g3, 0, none⟩) (m + 1) d3) = W4 at *
      obtain ⟨-, hvW, hlW, hCW⟩ := HB.out
      have hC24 : Chg (fun x => x = p ∨ (Value.slice A9 m c9).ownBlock = some x) W W4 := (hC2.mono (G := fun x => x = p ∨ (Value.slice A9 m c9).ownBlock = some x) fun _ _ h => h.elim).trans hC23 fun _ _ h => h
      have hC04 : Chg (fun x => x = p ∨ k.v.ownBlock = some x ∨ k.u.ownBlock = some x) w W4 := by
        rw [HE.out.1, HE.out.2]
        refine (hCW.mono (G := fun x => x = p ∨ (Value.slice A8 m c8).ownBlock = some x ∨ (Value.slice A9 m c9).ownBlock = some x) fun _ _ h => ?_).trans hC24 fun _ _ h => ?_
        · rcases h with h | h
          · exact .inl h
          · exact .inr (.inl h)
        · rcases h with h | h
          · exact .inl h
          · exact .inr (.inr h)
      have hu4 : W4.ownsRow 0 68 1 (.slice (some ⟨g3, 0, none⟩) (m + 1) d3) (m + 1) (k.its.map Kept.b ++ [.slice A2 n c2]) := own_chg hown3 hCs fun x hx e => by
        simp [Value.ownBlock] at hx
        rcases hat4 with h | h
        · exact hpu (by rw [h, hx, e])
        · omega
      have hv4 : W4.ownsRow 0 68 1 (.slice (some ⟨g1, 0, none⟩) (m + 1) d1) (m + 1) (k.its.map Kept.a ++ [.slice A n c]) := own_chg hvW hC24 fun x hx e => by
        simp [Value.ownBlock] at hx
        rcases e with e | e
        · omega
        · rcases hat with h | h
          · exact huv g1 h (by rw [hx]; exact e)
          · have := (HU.out.lt x e).2; omega
      have hb4 : W4.ownsRow w.heap.size 5 1 (.slice A2 n c2) n xs := own_base (own_chg hbW2 hC23 fun x hx e => by
        have h1 := (hbW2.lt x hx).1
        rcases e with e | e
        · omega
        · have := (HU.out.lt x e).2; omega) hsW
      have hg1x : ∀ x, (Value.slice (some ⟨g1, 0, none⟩) (m + 1) d1).ownBlock = some x → x = g1 := fun x hx => by simp [Value.ownBlock] at hx; exact hx.symm
      have hg3x : ∀ x, (Value.slice (some ⟨g3, 0, none⟩) (m + 1) d3).ownBlock = some x → x = g3 := fun x hx => by simp [Value.ownBlock] at hx; exact hx.symm
      have hsW2 : W.heap.size ≤ w2.heap.size := hC2.size
      obtain ⟨H1, H3, H2⟩ := hb.add (i := 4) (t := ⟨68, 5, 1, goodBytes⟩) rfl HK.out hm4 (Nat.le_trans hn (by decide)) hgd HL.out (fun x hx => by
          have := hne x hx
          rw [hF] at this
          omega) hC04 (by rw [← HM.out]; exact hv4) (by rw [← HM.out]; exact hu4) hb4
        (fun x hx => by
          rw [HE.out.1, hg1x x hx]; exact hat)
        (fun x hx => by
          rw [HE.out.2, hg3x x hx]
          rcases hat4 with h | h
          · exact .inl h
          · exact .inr (by omega))
        (fun x hx hy hz => by
          have h1 := hg1x x hx
          have h2 := hg3x x hy
          rcases hat4 with h | h
          · have := (HU.out.lt g3 h).2; omega
          · omega)
        (fun x hx hy => by
          have h1 := hg1x x hx
          have := (hbW2.lt x hy).1
          omega)
        (fun x hx hy => by
          have h1 := hg3x x hx
          have h2 := hbW2.lt x hy
          rcases hat4 with h | h
          · have := (HU.out.lt g3 h).2; omega
          · omega)
        (by rw [hb3])
      refine bodyPost_ret (v := .tuple #[]) (by simp [results, Tryz.results84, go_sem]) rfl ⟨rfl, ⟨W4, hC04.mono fun x _ hx => ?_⟩, _, _, rfl, ⟨_, H1, fun _ => Iff.rfl, fun _ => Iff.rfl⟩, fun x hx => ?_, fun x hx => ?_⟩
      · rw [hCC]
        have h2 := sum_ge (l := ks.map fun k => own1 x k.v + own1 x k.u) (List.mem_map.2 ⟨k, List.mem_of_getElem? HK.out, rfl⟩)
        unfold ccnt
        rcases hx with rfl | h | h
        · simp only [if_pos]; omega
        · have := own1_one h; omega
        · have := own1_one h; omega
      · rw [hCC]
        exact H3 x hx
      · rw [hF]
        exact H2 x hx
  · obtain rfl : m = 400 := by omega
    clear hm hblk g8 g9 h4 hits
    go_enter Tryz.func84, Tryz.ntmps84
    go_wp2
    exact bodyPost_ret (v := .tuple #[]) (by simp [results, Tryz.results84, go_sem]) rfl ⟨rfl, ⟨w, Chg.refl _ _⟩, C, F, rfl, ⟨ks, hb, hCC, hF⟩, fun _ h => .inl h, fun _ h => .inl h⟩
theorem info_listGrams : (Tryz.prog.info? 58).map (fun i => (i.zero, i.size, i.bytes)) = some (some (.slice none 0 0), 1, 24) := by kernel_rfl
theorem infoGrams : (Tryz.prog.info? 110).map (fun i => (i.zero, i.size, i.bytes)) = some (some (.agg #[.int .i64 0, .int .i64 0, .int .i64 0, .slice none 0 0]), 4, 48) := by kernel_rfl

theorem bookGrams_any (p : Nat) (C F : Nat → Prop) (A : Option Addr) (n c : Nat) (xs : List Value) (w : World) (hB : BookIs KT 53 w p C F) (hl : w.ownsRow 0 110 4 (.slice A n c) n xs) (hgd : goodGrams xs) (hne : ∀ x, (Value.slice A n c).ownBlock = some x → ¬ F x) (hn : n ≤ 100000) :
    Calls Tryz.prog 132 #[.pointer (some ⟨p, 0, none⟩), .slice A n c] w (BookTo p C F (.slice A n c) w) := by
  have h1c := oneGrams hgd
  obtain ⟨ks, hb, hCC, hF⟩ := hB
  have hlen : 9 < ks.length := by rw [hb.len]; decide
  obtain ⟨k, hk⟩ : ∃ k, ks[9]? = some k := ⟨_, List.getElem?_eq_getElem hlen⟩
  have hok := hb.ok 9 _ k rfl hk
  obtain ⟨h4, hv, hu, hits⟩ := hok
  obtain ⟨m, hm⟩ : ∃ m, m = k.its.length := ⟨_, rfl⟩
  have hv : w.ownsRow 0 58 1 k.v m (k.its.map Kept.a) := by rw [hm]; exact hv
  have hu : w.ownsRow 0 58 1 k.u m (k.its.map Kept.b) := by rw [hm]; exact hu
  obtain ⟨A8, c8, ev⟩ := own_shape hv
  obtain ⟨A9, c9, eu⟩ := own_shape hu
  have hblk := hb.heap
  obtain ⟨g8, g9⟩ := flat_get ks 9 k hk
  have c0 : w.cell? ⟨p, 18, none⟩ = some (.slice A8 m c8) := by rw [cell_of_row w p 18 _ _ _ hblk, ← ev]; exact g8
  have c1 : w.cell? ⟨p, 19, none⟩ = some (.slice A9 m c9) := by rw [cell_of_row w p 19 _ _ _ hblk, ← eu]; exact g9
  have hpl : p < w.heap.size := (Array.getElem?_eq_some_iff.1 hblk).1
  have i1 : Old p w := ⟨hpl⟩
  rw [ev] at hv
  rw [eu] at hu
  by_cases h400 : m < 400
  · obtain ⟨i0, hi0, hz0, hz1, hz2⟩ := info_parts info_listGrams
    obtain ⟨i2, hi2, hy0, hy1, hy2⟩ := info_parts infoGrams
    have hm4 : k.its.length < 400 := by omega
    have HM := Lib.hid hm
    have hpv : ¬ (Value.slice A8 m c8).ownBlock = some p := fun e => by
      have h1 := kcnt_le (p := p) (x := p) hk
      have h2 := hb.apart p
      have h3 := sum_ge (l := ks.map (kcnt p)) (List.mem_map.2 ⟨k, List.mem_of_getElem? hk, rfl⟩)
      have h4 : own1 p k.v = 1 := own1_one (by rw [ev]; exact e)
      have h5 : kcnt p k = own1 p k.v + own1 p k.u + (k.its.map fun it => own1 p it.a + own1 p it.b).sum := rfl
      simp only [bcnt, if_pos] at h2
      omega
    have huv : ∀ x, (Value.slice A8 m c8).ownBlock = some x → (Value.slice A9 m c9).ownBlock = some x → False := fun x e e' => by
      have h1 := kcnt_le (p := p) (x := x) hk
      have h2 := hb.apart x
      have h4 : own1 x k.v = 1 := own1_one (by rw [ev]; exact e)
      have h5 : own1 x k.u = 1 := own1_one (by rw [eu]; exact e')
      have h6 : kcnt x k = own1 x k.v + own1 x k.u + (k.its.map fun it => own1 x it.a + own1 x it.b).sum := rfl
      omega
    have hpu : ¬ (Value.slice A9 m c9).ownBlock = some p := fun e => by
      have h2 := hb.apart p
      have h3 := sum_ge (l := ks.map (kcnt p)) (List.mem_map.2 ⟨k, List.mem_of_getElem? hk, rfl⟩)
      have h4 : own1 p k.u = 1 := own1_one (by rw [eu]; exact e)
      have h5 : kcnt p k = own1 p k.v + own1 p k.u + (k.its.map fun it => own1 p it.a + own1 p it.b).sum := rfl
      simp only [bcnt, if_pos] at h2
      omega
    have hlv : ∀ x, (Value.slice A n c).ownBlock = some x → ¬ (Value.slice A8 m c8).ownBlock = some x := fun x e e' => by
      have h1 := hne x e
      rw [hF] at h1
      have h2 := kcnt_le (p := p) (x := x) hk
      have h4 : own1 x k.v = 1 := own1_one (by rw [ev]; exact e')
      have h6 : kcnt x k = own1 x k.v + own1 x k.u + (k.its.map fun it => own1 x it.a + own1 x it.b).sum := rfl
      omega
    have hlp : ¬ (Value.slice A n c).ownBlock = some p := fun e => by
      have h1 := hne p e
      rw [hF] at h1
      simp only [bcnt, if_pos] at h1
      omega
    have HH := Lib.hid hblk
    have HE := Lib.hid (And.intro ev eu)
    have HL := Lib.hid hl
    have HU := Lib.hid hu
    have HK := Lib.hid hk
    clear hm hblk g8 g9 h4 ev eu hits hl hu hk
    go_enter Tryz.func132, Tryz.ntmps132
    go_wp2_with (at_builtin; (refine wpList_append_lies _ rfl _ _ 49 rfl 0 58 i0 _ 1 24 Tryz.underlying49 hi0 hz0 hz1 hz2 rfl (by decide) (.slice A8 m c8) m (k.its.map Kept.a) rfl (own_chg (F := Noth) hv (by repeat (with_reducible first | exact Chg.refl _ _ | refine chg_m ?_ _ | refine chg_g ?_ _ | refine chg_alloc ?_ _ | refine chg_drew ?_ | refine chg_drewN ?_ _ | refine chg_set ?_ _ _ _)) fun _ _ e => e) ⟨_, 0, none⟩ 1 1 [.slice A n c] rfl rfl (World.news_of_block (cs := #[.slice A n c]) (heap_alloc_hs _ _ _)) (by intro u hu; simp at hu; subst hu; rfl) (by omega) (by simp only [maxLen]; omega) (by omega) (Nat.zero_le _) _ rfl ?_); intro g1 d1 w1 hown1 hg1 hat1 hlt1; have hC1 : Chg (fun x => (Value.slice A8 m c8).ownBlock = some x) w w1 := (show Chg (fun x => (Value.slice A8 m c8).ownBlock = some x) w _ from (by repeat (with_reducible first | exact Chg.refl _ _ | refine chg_m ?_ _ | refine chg_g ?_ _ | refine chg_alloc ?_ _ | refine chg_drew ?_ | refine chg_drewN ?_ _ | refine chg_set ?_ _ _ _))).trans (Chg.of_grown hg1) (fun _ _ e => e); have hb1 := (hC1.block p hpl hpv).trans HH.out; have q1 : w1.frozen? ⟨p, 18, none⟩ = false := frozen_of_row _ _ _ _ _ hb1; have q0 : w1.cell? ⟨p, 18, none⟩ = some (.slice A8 m c8) := (by rw [cell_of_row _ _ 18 _ _ _ hb1, HE.out.1.symm]; exact (flat_get ks 9 k HK.out).1); have k1 : HasCell w1 p 18 := ⟨by rw [q0]; rfl⟩; have j1 : Old p w1 := ⟨Nat.lt_of_lt_of_le hpl hC1.size⟩; have HX := Lib.hid (And.intro hown1 (And.intro hat1 hb1)); clear hown1 hg1 hat1 hb1)
    generalize hW : w1.setCell ⟨p, 18, none⟩ (.slice (some ⟨g1, 0, none⟩) (m + 1) d1) = W
    have hsz : w1.heap.size = W.heap.size := by rw [← hW]; simp [World.setCell]
    have hg1p : g1 ≠ p := fun e => by
      rcases HX.out.2.1 with h | h
      · exact hpv (by rw [h, e])
      · simp at h; omega
    have hCs : Chg (fun x => x = p) w1 W := by rw [← hW]; exact ⟨rfl, rfl, rfl, by simp [World.setCell], fun x _ hx => Below.heap_setCell w1 _ _ x hx⟩
    have hCW : Chg (fun x => x = p ∨ (Value.slice A8 m c8).ownBlock = some x) w W := (hC1.mono (G := fun x => x = p ∨ (Value.slice A8 m c8).ownBlock = some x) fun _ _ h => .inr h).trans hCs fun _ _ h => .inl h
    have hbW := heap_setCell_same w1 p 18 _ _ (.slice (some ⟨g1, 0, none⟩) (m + 1) d1) HX.out.2.2
    rw [hW] at hbW
    have hvW : W.ownsRow 0 58 1 (.slice (some ⟨g1, 0, none⟩) (m + 1) d1) (m + 1) (k.its.map Kept.a ++ [.slice A n c]) := own_chg HX.out.1 hCs fun x hx e => by
      simp [Value.ownBlock] at hx; omega
    have huW : W.ownsRow 0 58 1 (.slice A9 m c9) m (k.its.map Kept.b) := own_chg HU.out hCW fun x hx e => by
      rcases e with rfl | e
      · exact hpu hx
      · exact huv x e hx
    have hlW : W.ownsRow 0 110 4 (.slice A n c) n xs := own_chg HL.out hCW fun x hx e => by
      rcases e with rfl | e
      · exact hlp hx
      · exact hlv x hx e
    have hlS := SL.of_own hlW
    have hs1 := hC1.size
    have hat : (Value.slice A8 m c8).ownBlock = some g1 ∨ w.heap.size ≤ g1 := by
      rcases HX.out.2.1 with h | h
      · exact .inl h
      · simp at h; exact .inr (by omega)
    have hgW : g1 < W.heap.size := by omega
    have hpW : p < W.heap.size := by omega
    have jW : Old p W := ⟨hpW⟩
    have x1 : W.cell? ⟨p, 19, none⟩ = some (.slice A9 m c9) := by
      rw [cell_of_row W p 19 _ _ _ hbW, HE.out.2.symm, Array.getElem?_setIfInBounds_ne (by decide)]; exact (flat_get ks 9 k HK.out).2
    have x2 : W.frozen? ⟨p, 19, none⟩ = false := frozen_of_row _ _ _ _ _ hbW
    have kW : HasCell W p 19 := ⟨by rw [x1]; rfl⟩
    have HB := Lib.hid (And.intro hbW (And.intro hvW (And.intro hlW hCW)))
    have hsW : w.heap.size ≤ W.heap.size := by omega
    clear hW hC1 hCs hCW hbW hvW hlW hsz q0 q1 k1 j1 c0 c1 hlt1 HX hs1
    go_region_law (first
      | ((refine step_append_copy rfl (.const (.slice none 0 0)) (.tmp 25) 58 rfl 110 i2 _ 4 48 Tryz.underlying58 hi2 hy0 hy1 hy2 rfl (by decide) rfl (.slice A n c) n xs rfl (hlS.grow (by repeat (with_reducible first | exact Chg.refl _ _ | refine chg_m ?_ _ | refine chg_g ?_ _ | refine chg_alloc ?_ _ | refine chg_drew ?_ | refine chg_drewN ?_ _ | refine chg_set ?_ _ _ _))) h1c (by simp only [maxLen]; omega) (by omega) ?_); intro b2 w2 hb2 hg2; obtain ⟨A2, c2, rfl⟩ := own_shape hb2; have hC2 : Chg Noth W w2 := (show Chg Noth W _ from (by repeat (with_reducible first | exact Chg.refl _ _ | refine chg_m ?_ _ | refine chg_g ?_ _ | refine chg_alloc ?_ _ | refine chg_drew ?_ | refine chg_drewN ?_ _ | refine chg_set ?_ _ _ _))).trans (Chg.of_grown hg2) (fun _ _ e => by simp at e); have y1 : w2.cell? ⟨p, 19, none⟩ = some (.slice A9 m c9) := (hC2.cell (p := ⟨p, 19, none⟩) hpW fun e => e).trans x1; have y2 : w2.frozen? ⟨p, 19, none⟩ = false := (hC2.frozen (p := ⟨p, 19, none⟩) hpW fun e => e).trans x2; have j2 : Old p w2 := ⟨Nat.lt_of_lt_of_le hpW hC2.size⟩; have k2 : HasCell w2 p 19 := ⟨by rw [y1]; rfl⟩; have hu2 := own_chg huW hC2 fun _ _ e => e; have hsb : W.heap.size ≤ w2.heap.size := hC2.size; have hbW2 : w2.ownsRow W.heap.size 110 4 (.slice A2 n c2) n xs := own_base hb2 (by simp))
      | ((refine step_append_lies _ rfl (.tmp 24) (.tmp 27) 49 rfl 0 58 i0 _ 1 24 Tryz.underlying49 hi0 hz0 hz1 hz2 rfl (by decide) (.slice A9 m c9) m (k.its.map Kept.b) rfl (own_chg (F := Noth) hu2 (by repeat (with_reducible first | exact Chg.refl _ _ | refine chg_m ?_ _ | refine chg_g ?_ _ | refine chg_alloc ?_ _ | refine chg_drew ?_ | refine chg_drewN ?_ _ | refine chg_set ?_ _ _ _)) fun _ _ e => e) ⟨_, 0, none⟩ 1 1 [.slice A2 n c2] rfl rfl (World.news_of_block (cs := #[.slice A2 n c2]) (heap_alloc_hs _ _ _)) (by intro u hu; simp at hu; subst hu; rfl) (by omega) (by simp only [maxLen]; omega) (by omega) (Nat.zero_le _) _ rfl ?_); intro g3 d3 w3 hown3 hg3 hat3 hlt3; have hC3 : Chg (fun x => (Value.slice A9 m c9).ownBlock = some x) w2 w3 := (show Chg (fun x => (Value.slice A9 m c9).ownBlock = some x) w2 _ from (by repeat (with_reducible first | exact Chg.refl _ _ | refine chg_m ?_ _ | refine chg_g ?_ _ | refine chg_alloc ?_ _ | refine chg_drew ?_ | refine chg_drewN ?_ _ | refine chg_set ?_ _ _ _))).trans (Chg.of_grown hg3) (fun _ _ e => e); have z2 : w3.frozen? ⟨p, 19, none⟩ = false := (hC3.frozen (p := ⟨p, 19, none⟩) j2.lt hpu).trans y2; have z1 : w3.cell? ⟨p, 19, none⟩ = some (.slice A9 m c9) := (hC3.cell (p := ⟨p, 19, none⟩) j2.lt hpu).trans y1; have j3 : Old p w3 := ⟨Nat.lt_of_lt_of_le j2.lt hC3.size⟩; have hat4 : (Value.slice A9 m c9).ownBlock = some g3 ∨ w2.heap.size ≤ g3 := (by rcases hat3 with h | h; exact .inl h; simp at h; exact .inr (by omega))))
    all_goals
      have hCs : Chg (fun x => x = p) w3 (w3.setCell ⟨p, 19, none⟩ (.slice (some ⟨g3, 0, none⟩) (m + 1) d3)) := ⟨rfl, rfl, rfl, by simp [World.setCell], fun x _ hx => Below.heap_setCell w3 _ _ x hx⟩
      have hC23 : Chg (fun x => x = p ∨ (Value.slice A9 m c9).ownBlock = some x) w2 (w3.setCell ⟨p, 19, none⟩ (.slice (some ⟨g3, 0, none⟩) (m + 1) d3)) := (hC3.mono (G := fun x => x = p ∨ (Value.slice A9 m c9).ownBlock = some x) fun _ _ h => .inr h).trans hCs fun _ _ h => .inl h
      have hb3 := heap_setCell_same w3 p 19 _ _ (.slice (some ⟨g3, 0, none⟩) (m + 1) d3) (((hC3.block p j2.lt hpu).trans (hC2.block p hpW fun e => e)).trans HB.out.1)
      generalize w3.setCell ⟨p, 19, none⟩ (.slice (some ⟨g3, 0, none⟩) (m + 1) d3) = W4 at *
      obtain ⟨-, hvW, hlW, hCW⟩ := HB.out
      have hC24 : Chg (fun x => x = p ∨ (Value.slice A9 m c9).ownBlock = some x) W W4 := (hC2.mono (G := fun x => x = p ∨ (Value.slice A9 m c9).ownBlock = some x) fun _ _ h => h.elim).trans hC23 fun _ _ h => h
      have hC04 : Chg (fun x => x = p ∨ k.v.ownBlock = some x ∨ k.u.ownBlock = some x) w W4 := by
        rw [HE.out.1, HE.out.2]
        refine (hCW.mono (G := fun x => x = p ∨ (Value.slice A8 m c8).ownBlock = some x ∨ (Value.slice A9 m c9).ownBlock = some x) fun _ _ h => ?_).trans hC24 fun _ _ h => ?_
        · rcases h with h | h
          · exact .inl h
          · exact .inr (.inl h)
        · rcases h with h | h
          · exact .inl h
          · exact .inr (.inr h)
      have hu4 : W4.ownsRow 0 58 1 (.slice (some ⟨g3, 0, none⟩) (m + 1) d3) (m + 1) (k.its.map Kept.b ++ [.slice A2 n c2]) := own_chg hown3 hCs fun x hx e => by
        simp [Value.ownBlock] at hx
        rcases hat4 with h | h
        · exact hpu (by rw [h, hx, e])
        · omega
      have hv4 : W4.ownsRow 0 58 1 (.slice (some ⟨g1, 0, none⟩) (m + 1) d1) (m + 1) (k.its.map Kept.a ++ [.slice A n c]) := own_chg hvW hC24 fun x hx e => by
        simp [Value.ownBlock] at hx
        rcases e with e | e
        · omega
        · rcases hat with h | h
          · exact huv g1 h (by rw [hx]; exact e)
          · have := (HU.out.lt x e).2; omega
      have hb4 : W4.ownsRow w.heap.size 110 4 (.slice A2 n c2) n xs := own_base (own_chg hbW2 hC23 fun x hx e => by
        have h1 := (hbW2.lt x hx).1
        rcases e with e | e
        · omega
        · have := (HU.out.lt x e).2; omega) hsW
      have hg1x : ∀ x, (Value.slice (some ⟨g1, 0, none⟩) (m + 1) d1).ownBlock = some x → x = g1 := fun x hx => by simp [Value.ownBlock] at hx; exact hx.symm
      have hg3x : ∀ x, (Value.slice (some ⟨g3, 0, none⟩) (m + 1) d3).ownBlock = some x → x = g3 := fun x hx => by simp [Value.ownBlock] at hx; exact hx.symm
      have hsW2 : W.heap.size ≤ w2.heap.size := hC2.size
      obtain ⟨H1, H3, H2⟩ := hb.add (i := 9) (t := ⟨58, 110, 4, goodGrams⟩) rfl HK.out hm4 (Nat.le_trans hn (by decide)) hgd HL.out (fun x hx => by
          have := hne x hx
          rw [hF] at this
          omega) hC04 (by rw [← HM.out]; exact hv4) (by rw [← HM.out]; exact hu4) hb4
        (fun x hx => by
          rw [HE.out.1, hg1x x hx]; exact hat)
        (fun x hx => by
          rw [HE.out.2, hg3x x hx]
          rcases hat4 with h | h
          · exact .inl h
          · exact .inr (by omega))
        (fun x hx hy hz => by
          have h1 := hg1x x hx
          have h2 := hg3x x hy
          rcases hat4 with h | h
          · have := (HU.out.lt g3 h).2; omega
          · omega)
        (fun x hx hy => by
          have h1 := hg1x x hx
          have := (hbW2.lt x hy).1
          omega)
        (fun x hx hy => by
          have h1 := hg3x x hx
          have h2 := hbW2.lt x hy
          rcases hat4 with h | h
          · have := (HU.out.lt g3 h).2; omega
          · omega)
        (by rw [hb3])
      refine bodyPost_ret (v := .tuple #[]) (by simp [results, Tryz.results132, go_sem]) rfl ⟨rfl, ⟨W4, hC04.mono fun x _ hx => ?_⟩, _, _, rfl, ⟨_, H1, fun _ => Iff.rfl, fun _ => Iff.rfl⟩, fun x hx => ?_, fun x hx => ?_⟩
      · rw [hCC]
        have h2 := sum_ge (l := ks.map fun k => own1 x k.v + own1 x k.u) (List.mem_map.2 ⟨k, List.mem_of_getElem? HK.out, rfl⟩)
        unfold ccnt
        rcases hx with rfl | h | h
        · simp only [if_pos]; omega
        · have := own1_one h; omega
        · have := own1_one h; omega
      · rw [hCC]
        exact H3 x hx
      · rw [hF]
        exact H2 x hx
  · obtain rfl : m = 400 := by omega
    clear hm hblk g8 g9 h4 hits
    go_enter Tryz.func132, Tryz.ntmps132
    go_wp2
    exact bodyPost_ret (v := .tuple #[]) (by simp [results, Tryz.results132, go_sem]) rfl ⟨rfl, ⟨w, Chg.refl _ _⟩, C, F, rfl, ⟨ks, hb, hCC, hF⟩, fun _ h => .inl h, fun _ h => .inl h⟩
end Go.Proofs.YteemkceceaabkaaGreat
