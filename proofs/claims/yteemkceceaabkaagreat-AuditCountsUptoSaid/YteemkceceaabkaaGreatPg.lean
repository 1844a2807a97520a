/- The book of lists: what is written over. -/
import Derived.Test.YteemkceceaabkaaGreatBy
set_option linter.unusedSimpArgs false
set_option linter.unusedVariables false
namespace Go.Proofs.YteemkceceaabkaaGreat
open Go.RowKit Go.Ear
set_option maxHeartbeats 1000000
set_option maxRecDepth 40000

section
variable {w w' : World} {p i : Nat} {ks : List Kind} {k : Kind} {t : KindT} {C : Nat → Nat → Kept → List Value} {own : Nat → Prop} {G : Nat → Prop}
/-- Block x is a kept list's of kind i. -/
def FA (ks : List Kind) (i : Nat) (x : Nat) : Prop := ∃ k, ks[i]? = some k ∧ ∃ it ∈ k.its, it.a.ownBlock = some x
theorem FA.cnt {x : Nat} (h : FA ks i x) : 0 < bcnt p ks x := by
  obtain ⟨k, hk, it, hit, hx⟩ := h
  have h1 := kcnt_le (p := p) (x := x) hk
  have h2 := its_le (x := x) hit
  have h3 : own1 x it.a = 1 := own1_one hx
  have h6 : kcnt x k = own1 x k.v + own1 x k.u + (k.its.map fun it => own1 x it.a + own1 x it.b).sum := rfl
  omega
/-- A kept list's block is none of the rows', none of another kind's, and not the book. -/
theorem FA.far {x : Nat} (h : FA ks i x) (ha : bcnt p ks x ≤ 1) : x ≠ p ∧ (∀ (i' : Nat) (k' : Kind), ks[i']? = some k' → k'.v.ownBlock ≠ some x) ∧ (∀ i' : Nat, i' ≠ i → ¬ FA ks i' x) := by
  obtain ⟨k, hk, it, hit, hx⟩ := h
  have h2 := its_le (x := x) hit
  have h3 : own1 x it.a = 1 := own1_one hx
  have h6 : kcnt x k = own1 x k.v + own1 x k.u + (k.its.map fun it => own1 x it.a + own1 x it.b).sum := rfl
  have h7 := sum_ge (l := ks.map (kcnt x)) (List.mem_map.2 ⟨k, List.mem_of_getElem? hk, rfl⟩)
  have two : ∀ (i' : Nat) (k' : Kind), ks[i']? = some k' → i' ≠ i → kcnt x k' = 0 := fun i' k' hk' hne => by
    have h0 := sum_set (kcnt x) ks i k ⟨.bool true, .bool true, []⟩ hk
    have h2 : kcnt x ⟨.bool true, .bool true, []⟩ = 0 := by simp [kcnt, own1, Value.ownBlock]
    have h3 := sum_ge (l := (ks.set i ⟨.bool true, .bool true, []⟩).map (kcnt x)) (List.mem_map.2 ⟨k', List.mem_of_getElem? (by rw [List.getElem?_set_ne (fun e => hne e.symm)]; exact hk'), rfl⟩)
    unfold bcnt at ha
    omega
  refine ⟨fun e => ?_, fun i' k' hk' e => ?_, fun i' hne h' => ?_⟩
  · simp only [bcnt, if_pos e] at ha; omega
  · have h4 : own1 x k'.v = 1 := own1_one e
    by_cases hii : i' = i
    · subst hii
      rw [hk] at hk'; cases hk'
      unfold bcnt at ha
      omega
    · have h5 := two i' k' hk' hii
      have h8 : kcnt x k' = own1 x k'.v + own1 x k'.u + (k'.its.map fun it => own1 x it.a + own1 x it.b).sum := rfl
      omega
  · obtain ⟨k', hk', it', hit', hx'⟩ := h'
    have h5 := two i' k' hk' hne
    have h8 : kcnt x k' = own1 x k'.v + own1 x k'.u + (k'.its.map fun it => own1 x it.a + own1 x it.b).sum := rfl
    have h9 := its_le (x := x) hit'
    have h4 : own1 x it'.a = 1 := own1_one hx'
    omega
theorem sum2 : ∀ {l : List Kept} {j j' : Nat} {it it' : Kept} {f : Kept → Nat}, l[j]? = some it → l[j']? = some it' → j ≠ j' → f it + f it' ≤ (l.map f).sum
  | c :: l, 0, 0, _, _, _, _, _, h => absurd rfl h
  | c :: l, 0, j' + 1, it, it', f, h, h', _ => by
    simp at h
    subst h
    have := sum_ge (l := l.map f) (List.mem_map.2 ⟨it', List.mem_of_getElem? (by simpa using h'), rfl⟩)
    simp only [List.map_cons, List.sum_cons]; omega
  | c :: l, j + 1, 0, it, it', f, h, h', _ => by
    simp at h'
    subst h'
    have := sum_ge (l := l.map f) (List.mem_map.2 ⟨it, List.mem_of_getElem? (by simpa using h), rfl⟩)
    simp only [List.map_cons, List.sum_cons]; omega
  | c :: l, j + 1, j' + 1, it, it', f, h, h', hne => by
    have := sum2 (f := f) (l := l) (j := j) (j' := j') (by simpa using h) (by simpa using h') (by omega)
    simp only [List.map_cons, List.sum_cons]; omega
/-- Two kept lists of one kind have no block in common. -/
theorem its_far {x j j' : Nat} {it it' : Kept} (hk : ks[i]? = some k) (ha : bcnt p ks x ≤ 1) (h : k.its[j]? = some it) (h' : k.its[j']? = some it') (hne : j ≠ j') (hx : it.a.ownBlock = some x) : it'.a.ownBlock ≠ some x := fun hx' => by
  have h1 := kcnt_le (p := p) (x := x) hk
  have h2 := sum2 (f := fun it => own1 x it.a + own1 x it.b) h h' hne
  have h3 : own1 x it.a = 1 := own1_one hx
  have h4 : own1 x it'.a = 1 := own1_one hx'
  have h6 : kcnt x k = own1 x k.v + own1 x k.u + (k.its.map fun it => own1 x it.a + own1 x it.b).sum := rfl
  omega
/-- The world has changed elsewhere. -/
theorem BookP.chg (h : BookP w p ks C own) (hc : Chg G w w') (hG : ∀ x, G x → bcnt p ks x = 0) : BookP w' p ks C own := by
  have hz : ∀ x, G x → ∀ (i : Nat) (k : Kind), ks[i]? = some k → kcnt x k = 0 := fun x hx i k hk => by
    have h1 := hG x hx
    have h2 := kcnt_le (p := p) (x := x) hk
    omega
  refine ⟨(hc.block p (Array.getElem?_eq_some_iff.1 h.heap).1 fun hp => by have := hG p hp; simp [bcnt] at this).trans h.heap, h.len, h.apart, fun i t k ht hk => ⟨(h.vrow i t k ht hk).1, own_keep (h.vrow i t k ht hk).2 hc fun x hx => ?_⟩, h.few, fun i t k j it ht hk hj => ?_⟩
  · have := hz x hx i k hk
    unfold kcnt at this
    omega
  · obtain ⟨h1, h2, h3⟩ := h.els i t k j it ht hk hj
    have key : ∀ x, it.a.ownBlock = some x → ¬ G x := fun x hx hg => by
      have h4 := hz x hg i k hk
      have h5 := its_le (x := x) (List.mem_of_getElem? hj)
      have h6 : own1 x it.a = 1 := own1_one hx
      unfold kcnt at h4
      omega
    exact ⟨h1, fun ho => own_chg (h2 ho) hc key, h3.chg hc fun x _ hx => key x hx⟩
theorem BookP.grow (h : BookP w p ks C own) (hc : Chg Noth w w') : BookP w' p ks C own := h.chg hc fun _ e => e.elim
theorem BookP.blt {x : Nat} (h : BookP w p ks C own) (hx : FA ks i x) (ho : own i) : x < w.heap.size := by
  obtain ⟨k, hk, it, hit, hx⟩ := hx
  have hi : i < KT.length := by rw [← h.len]; exact (List.getElem?_eq_some_iff.1 hk).1
  obtain ⟨j, hj⟩ := List.getElem?_of_mem hit
  obtain ⟨_, h2, _⟩ := h.els i _ k j it (List.getElem?_eq_getElem hi) hk hj
  exact ((h2 ho).lt x hx).2
end

theorem own_put1 {w : World} {base n c sz g o : Nat} {e : TypeId} {xs : List Value} (u : Value) (h : w.ownsRow base e sz (.slice (some ⟨g, 0, none⟩) n c) n xs) (ho : o < n * sz) : (w.setCell ⟨g, o, none⟩ u).ownsRow base e sz (.slice (some ⟨g, 0, none⟩) n c) n (xs.set o u) := by
  rcases h.2 with ⟨e0, _⟩ | ⟨g', cap, cur, e0, hb, hg, hn, hcap, hsz, htk⟩
  · cases e0
  · cases e0
    refine ⟨by simpa using h.1, .inr ⟨g, c, cur.setIfInBounds o u, rfl, hb, heap_setCell_same w g o _ _ u hg, hn, hcap, by simpa using hsz, ?_⟩⟩
    rw [Array.toList_setIfInBounds, ← htk, List.take_set]
theorem drop_split {n sz : Nat} {xs : List Value} (h : xs.length = n * sz) {z : Nat} (hz : z < n) : (xs.drop (z * sz)) = (xs.drop (z * sz)).take sz ++ xs.drop ((z + 1) * sz) ∧ ((xs.drop (z * sz)).take sz).length = sz := by
  have hle : (z + 1) * sz ≤ n * sz := Nat.mul_le_mul_right _ hz
  rw [Nat.succ_mul] at hle
  refine ⟨?_, by simp; omega⟩
  conv => lhs; rw [← List.take_append_drop sz (xs.drop (z * sz))]
  rw [List.drop_drop, Nat.succ_mul]
theorem own_fz {w : World} {base n c sz g o : Nat} {e : TypeId} {xs : List Value} (h : w.ownsRow base e sz (.slice (some ⟨g, 0, none⟩) n c) n xs) : w.frozen? ⟨g, o, none⟩ = false := by
  rcases h.2 with ⟨e0, _⟩ | ⟨g', cap, cur, e0, hb, hg, _⟩
  · cases e0
  · cases e0
    exact frozen_of_row _ _ _ _ _ hg
/-- The lists of one kind have been written over. -/
theorem book_put {w w' : World} {p d : Nat} {ks : List Kind} {k : Kind} {t : KindT} (h : BookP w p ks (CD d) (fun _ => True)) (ht : KT[d]? = some t) (hk : ks[d]? = some k) (hc : Chg (FA ks d) w w') (hn : ∀ (j : Nat) (it : Kept), k.its[j]? = some it → w'.ownsRow 0 t.e t.sz it.a it.n (XM d j it.n)) :
    BookP w' p ks (CD (d + 1)) (fun _ => True) := by
  have hpl := (Array.getElem?_eq_some_iff.1 h.heap).1
  refine ⟨(hc.block p hpl fun e => (e.far (h.apart p)).1 rfl).trans h.heap, h.len, h.apart, fun i t' k' ht' hk' => ⟨(h.vrow i t' k' ht' hk').1, own_chg (h.vrow i t' k' ht' hk').2 hc fun x hx e => (e.far (h.apart x)).2.1 i k' hk' hx⟩, h.few, fun i t' k' j it ht' hk' hj => ?_⟩
  obtain ⟨h1, h2, h3⟩ := h.els i t' k' j it ht' hk' hj
  by_cases hid : i = d
  · subst hid
    rw [ht] at ht'; cases ht'
    rw [hk] at hk'; cases hk'
    have h4 := hn j it hj
    have e : CD (i + 1) i j it = XM i j it.n := by unfold CD; rw [if_pos (by omega)]
    rw [e]
    exact ⟨h1, fun _ => h4, SL.of_own h4⟩
  · have e : CD (d + 1) i j it = CD d i j it := by
      unfold CD
      by_cases hlt : i < d
      · rw [if_pos hlt, if_pos (by omega)]
      · rw [if_neg hlt, if_neg (by omega)]
    rw [e]
    have h4 := own_chg (h2 trivial) hc fun x hx e => (e.far (h.apart x)).2.2 i hid ⟨k', hk', it, List.mem_of_getElem? hj, hx⟩
    exact ⟨h1, fun _ => h4, SL.of_own h4⟩
/-- What a put leaves. -/
def PutTo (p d : Nat) (ks : List Kind) (w : World) : Ending → World → Prop := fun e w' => e = .returned (.tuple #[]) ∧ ∃ m : Muts (FA ks d) w, w' = m.w ∧ BookP m.w p ks (CD (d + 1)) (fun _ => True)

theorem putBytes_any (p : Nat) (ks : List Kind) (w : World) (h : BookP w p ks (CD 4) (fun _ => True)) : Calls Tryz.prog 45 #[.pointer (some ⟨p, 0, none⟩)] w (PutTo p 4 ks w) := by
  obtain ⟨k, hk⟩ : ∃ k, ks[4]? = some k := ⟨_, List.getElem?_eq_getElem (by rw [h.len]; decide)⟩
  obtain ⟨h4, hv⟩ := h.vrow 4 _ k rfl hk
  obtain ⟨m, hm⟩ : ∃ m, m = k.its.length := ⟨_, rfl⟩
  rw [← hm] at h4 hv
  obtain ⟨A8, c8, ev⟩ := own_shape hv
  have c0 : w.cell? ⟨p, 8, none⟩ = some (.slice A8 m c8) := by rw [cell_of_row w p 8 _ _ _ h.heap]; exact (flat_get ks 4 k hk).1.trans (by rw [ev])
  have hvF : ∀ x, FA ks 4 x → k.v.ownBlock ≠ some x := fun x hx => (hx.far (h.apart x)).2.1 4 k hk
  rw [ev] at hv hvF
  have hpF : ¬ FA ks 4 p := fun e => (e.far (h.apart p)).1 rfl
  have hpl := (Array.getElem?_eq_some_iff.1 h.heap).1
  have i1 : Old p w := ⟨hpl⟩
  have iP : Out p (FA ks 4) := ⟨hpF⟩
  have HM := Lib.hid hm
  have HH := Lib.hid h
  have HK := Lib.hid hk
  clear hm ev hk h
  go_enter Tryz.func45, Tryz.ntmps45
  go_wp2
  go_loopw [2] (fun i wr => ∃ (q : Nat) (mm : Muts (FA ks 4) w), q ≤ m ∧ i = .int .i64 q ∧ wr = mm.w ∧ (∀ (j : Nat) (it : Kept), k.its[j]? = some it → j < q → mm.w.ownsRow 0 5 1 it.a it.n (XM 4 j it.n)) ∧ (∀ (j : Nat) (it : Kept), k.its[j]? = some it → q ≤ j → mm.w.ownsRow 0 5 1 it.a it.n (CD 4 4 j it))) (fun i _ => m - (intOf i).toNat)
  case atStart => exact ⟨0, ⟨w, Chg.refl _ _⟩, Nat.zero_le _, rfl, rfl, fun j it _ hj => by omega, fun j it hj _ => (HH.out.els 4 _ k j it rfl HK.out hj).2.1 trivial⟩
  case round =>
    obtain ⟨q, mm, hq, rfl, rfl, hdone, htodo⟩ := hrel
    by_cases hlt : q < m
    · obtain ⟨it, hj⟩ : ∃ it, k.its[q]? = some it := ⟨_, List.getElem?_eq_getElem (by have := HM.out; omega)⟩
      have ha := htodo q it hj (Nat.le_refl _)
      have hn := (HH.out.els 4 _ k q it rfl HK.out hj).1
      have hfa : ∀ x, it.a.ownBlock = some x → FA ks 4 x := fun x hx => ⟨k, HK.out, it, List.mem_of_getElem? hj, hx⟩
      have hoth : ∀ (j : Nat) (it' : Kept), k.its[j]? = some it' → j ≠ q → ∀ x, it.a.ownBlock = some x → it'.a.ownBlock ≠ some x := fun j it' hj' hne x hx => its_far HK.out (HH.out.apart x) hj hj' (fun e => hne e.symm) hx
      have hlq : q < k.its.length := by have := HM.out; omega
      obtain ⟨n, hnn⟩ : ∃ n, n = it.n := ⟨_, rfl⟩
      rw [← hnn] at ha hn
      obtain ⟨Aa, ca, ea⟩ := own_shape ha
      rw [ea] at ha hfa hoth
      obtain ⟨g8, cap8, e8, _, l8⟩ := hv.form (by omega)
      cases e8
      have hg8 : ¬ FA ks 4 g8 := fun e => hvF g8 e rfl
      have iG : Out g8 (FA ks 4) := ⟨hg8⟩
      have i2 : Old g8 w := ⟨l8⟩
      have d0 : w.cell? ⟨g8, q, none⟩ = some (.slice Aa n ca) := by rw [hv.cellAt q (by omega), List.getElem?_map, hj, ← ea]; rfl
      have hmark := fun W => markBytes_any q 0 n W (by omega) (by omega)
      have e0 : mm.w.cell? ⟨p, 8, none⟩ = some (.slice (some ⟨g8, 0, none⟩) m c8) := by simp [go_sem, c0]
      have e1 : mm.w.cell? ⟨g8, q, none⟩ = some (.slice Aa n ca) := by simp [go_sem, d0]
      have j1 : Old p mm.w := inferInstance
      have j2 : Old g8 mm.w := inferInstance
      have HJ := Lib.hid (And.intro hj (And.intro hnn ea))
      have HD := Lib.hid (And.intro hdone htodo)
      have hmc := mm.h
      generalize mm.w = W1 at *
      clear hdone htodo hj hnn ea c0 d0 mm
      go_wp2_with (go_at_call 115; refine (hmark _).mono ?_; rintro e w1 ⟨Ab, cb, rfl, hob, g1, rfl⟩)
      have hc1 : Chg Noth W1 g1.w := (by repeat (with_reducible first | exact Chg.refl _ _ | refine chg_m ?_ _ | refine chg_g ?_ _ | refine chg_alloc ?_ _ | refine chg_drew ?_ | refine chg_drewN ?_ _ | refine chg_set ?_ _ _ _))
      have f0 : g1.w.cell? ⟨p, 8, none⟩ = some (.slice (some ⟨g8, 0, none⟩) m c8) := by simp [go_sem, e0]
      have f1 : g1.w.cell? ⟨g8, q, none⟩ = some (.slice Aa n ca) := by simp [go_sem, e1]
      have ha1 := own_chg ha hc1 fun _ _ e => e
      have hs1 := hc1.size
      have hW1s : ∀ x, FA ks 4 x → x < W1.heap.size := fun x hx => Nat.lt_of_lt_of_le (HH.out.blt hx trivial) hmc.size
      have k1 : Old p g1.w := ⟨by have := j1.lt; omega⟩
      have k2 : Old g8 g1.w := ⟨by have := j2.lt; omega⟩
      have hnb : ∀ x, (Value.slice Ab n cb).ownBlock = some x → W1.heap.size ≤ x := fun x hx => by have := (hob.lt x hx).1; simpa using this
      generalize g1.w = W2 at *
      have HA := Lib.hid ha1
      have HB := Lib.hid hob
      clear ha ha1 hob e0 e1 j1 j2
      have hX0 : (CD 4 4 q it).length = n * 1 := HA.out.1
      generalize CD 4 4 q it = X0 at HA hX0
      go_loopw [4] (fun i' wr => ∃ z : Nat, z ≤ n ∧ i' = .int .i64 z ∧ Chg (fun x => (Value.slice Aa n ca).ownBlock = some x) W2 wr ∧ wr.ownsRow 0 5 1 (.slice Aa n ca) n (marks mkBytes q 0 z ++ X0.drop (z * 1))) (fun i' _ => n - (intOf i').toNat)
      case atStart => exact ⟨0, Nat.zero_le _, rfl, Chg.refl _ _, by simpa [marks_zero] using HA.out⟩
      case round =>
        obtain ⟨z, hz, rfl, hcx, hox⟩ := hrel
        by_cases hzn : z < n
        · obtain ⟨ga, cap0, e8, _, lga⟩ := hox.form (by omega)
          cases e8
          obtain ⟨gb, cap1, e9, _, lgb⟩ := HB.out.form (by omega)
          cases e9
          have hgb : W1.heap.size ≤ gb := hnb gb rfl
          have hgaF := hfa ga rfl
          have hga := hW1s ga hgaF
          have n1 : ¬ ga = p := fun e => hpF (e ▸ hgaF)
          have n2 : ¬ ga = g8 := fun e => hg8 (e ▸ hgaF)
          have n3 : ¬ ga = gb := by omega
          have n1' : ¬ p = ga := fun e => n1 e.symm
          have n2' : ¬ g8 = ga := fun e => n2 e.symm
          have n3' : ¬ gb = ga := fun e => n3 e.symm
          have b0 : wr.cell? ⟨p, 8, none⟩ = some (.slice (some ⟨g8, 0, none⟩) m c8) := (hcx.cell (p := ⟨p, 8, none⟩) k1.lt (fun e => by simp [Value.ownBlock] at e; exact n1 e)).trans f0
          have b1 : wr.cell? ⟨g8, q, none⟩ = some (.slice (some ⟨ga, 0, none⟩) n ca) := (hcx.cell (p := ⟨g8, q, none⟩) k2.lt (fun e => by simp [Value.ownBlock] at e; exact n2 e)).trans f1
          have m0 : wr.cell? ⟨gb, z, none⟩ = some (.int .u8 (((q : Int) * 31 + (z : Int) * 7 + (q : Int) / 7) % 251)) := (hcx.cell (p := ⟨gb, z, none⟩) lgb (fun e => by simp [Value.ownBlock] at e; exact n3 e)).trans ((HB.out.cellAt (z) (by omega)).trans ((by have h0 := marks_get (f := mkBytes) (i := q) (fr := 0) (n := n) (sz := 1) mkBytes_len hzn (show 0 < 1 by decide); simpa [mkBytes] using h0)))
          have hlen0 : (marks mkBytes q 0 z).length = z * 1 := marks_len mkBytes_len
          obtain ⟨hds, hdl⟩ := drop_split hX0 hzn
          generalize (X0.drop (z * 1)).take 1 = Bz at hds hdl
          rw [hds] at hox
          match Bz, hdl with
          | [b0_], _ =>
            obtain ⟨y0_, y0⟩ : ∃ u, wr.cell? ⟨ga, z, none⟩ = some u := ⟨_, (hox.cellAt (z) (by omega)).trans (List.getElem?_eq_getElem (by rw [hox.1]; omega))⟩
            have hfz : ∀ o, wr.frozen? ⟨ga, o, none⟩ = false := fun o => own_fz hox
            have jp : Old p wr := ⟨Nat.lt_of_lt_of_le k1.lt hcx.size⟩
            have jg8 : Old g8 wr := ⟨Nat.lt_of_lt_of_le k2.lt hcx.size⟩
            have jga : Old ga wr := ⟨Nat.lt_of_lt_of_le (by omega) hcx.size⟩
            have jgb : Old gb wr := ⟨Nat.lt_of_lt_of_le lgb hcx.size⟩
            have h0_ : HasCell wr ga (z) := ⟨by rw [y0]; rfl⟩
            have HOX := Lib.hid (And.intro hox (And.intro hcx (And.intro hlen0 hds)))
            clear hox hcx hlen0 hds hdl
            go_wp2
            go_region_held_law (fun W' => W'.cell? ⟨p, 8, none⟩ = some (.slice (some ⟨g8, 0, none⟩) m c8) ∧ W'.cell? ⟨g8, q, none⟩ = some (.slice (some ⟨ga, 0, none⟩) n ca) ∧ W'.cell? ⟨gb, z, none⟩ = some (.int .u8 (((q : Int) * 31 + (z : Int) * 7 + (q : Int) / 7) % 251))) (refine ⟨?_, ?_, ?_⟩ <;> simp [go_sem, *]) (fail)
            obtain ⟨hox, hcx, hlen0, hds⟩ := HOX.out
            have hle4 : (z + 1) * 1 ≤ n * 1 := Nat.mul_le_mul_right _ hzn
            have o4 := own_put1 (.int .u8 (((q : Int) * 31 + (z : Int) * 7 + (q : Int) / 7) % 251)) (hox) (o := z) (by omega)
            have e4 : ((marks mkBytes q 0 z ++ ([b0_] ++ X0.drop ((z + 1) * 1))).set (z) (.int .u8 (((q : Int) * 31 + (z : Int) * 7 + (q : Int) / 7) % 251))) = marks mkBytes q 0 (z + 1) ++ X0.drop ((z + 1) * 1) := by
              rw [marks_succ, List.append_assoc]
              simp [List.set_append, hlen0, mkBytes]
            rw [e4] at o4
            have hmay : May ga (fun x => (Value.slice (some ⟨ga, 0, none⟩) n ca).ownBlock = some x) W2 := ⟨.inl rfl⟩
            have c4 : Chg (fun x => (Value.slice (some ⟨ga, 0, none⟩) n ca).ownBlock = some x) W2 (wr.setCell ⟨ga, z, none⟩ (.int .u8 (((q : Int) * 31 + (z : Int) * 7 + (q : Int) / 7) % 251))) := (chg_set hcx _ _ _)
            have H4 := Lib.hid (And.intro o4 c4)
            clear o4 c4 e4
            go_wp2
            exact ⟨⟨z + 1, by omega, by simp, chg_drew H4.out.2, H4.out.1⟩, by simp [intOf]; omega⟩
        · obtain rfl : z = n := by omega
          obtain ⟨hj, hnn, ea⟩ := HJ.out
          obtain ⟨hdone, htodo⟩ := HD.out
          have hX : X0.drop (z * 1) = [] := List.drop_eq_nil_of_le (by omega)
          rw [hX, List.append_nil] at hox
          have hcA : Chg (FA ks 4) w wr := (hmc.trans (G := FA ks 4) (hc1.mono fun _ _ e => e.elim) fun _ _ e => e).trans hcx fun x _ e => hfa x e
          have hkeep : ∀ (j : Nat) (it' : Kept) (xs : List Value), k.its[j]? = some it' → j ≠ q → W1.ownsRow 0 5 1 it'.a it'.n xs → wr.ownsRow 0 5 1 it'.a it'.n xs := fun j it' xs hj' hne ho => own_chg (own_chg ho hc1 fun _ _ e => e) hcx fun x hx e => hoth j it' hj' hne x e hx
          have HR : Hid ((∀ (j : Nat) (it : Kept), k.its[j]? = some it → j < q + 1 → wr.ownsRow 0 5 1 it.a it.n (XM 4 j it.n)) ∧ (∀ (j : Nat) (it : Kept), k.its[j]? = some it → q + 1 ≤ j → wr.ownsRow 0 5 1 it.a it.n (CD 4 4 j it))) := Lib.hid ⟨fun j it' hj' hlt' => by
            by_cases hjq : j = q
            · subst hjq
              rw [hj] at hj'
              cases hj'
              rw [ea, ← hnn]
              exact hox
            · exact hkeep j it' _ hj' hjq (hdone j it' hj' (by omega)), fun j it' hj' hle' => hkeep j it' _ hj' (by omega) (htodo j it' hj' (by omega))⟩
          clear hox hj hnn ea hdone htodo hkeep hX hcx
          go_wp2
          exact ⟨⟨q + 1, ⟨wr, hcA⟩, by omega, by simp, rfl, HR.out⟩, by simp [intOf]; omega⟩
    · obtain rfl : q = m := by omega
      have hfin := book_put HH.out rfl HK.out mm.h fun j it hj => hdone j it hj (by have := (List.getElem?_eq_some_iff.1 hj).1; have := HM.out; omega)
      have HF := Lib.hid hfin
      clear hdone htodo hfin
      have hmc : mm.w.cell? ⟨p, 8, none⟩ = some (.slice A8 q c8) := by simp [go_sem, c0]
      have j1 : Old p mm.w := inferInstance
      go_wp2
      exact bodyPost_ret (v := .tuple #[]) (by simp [results, Tryz.results45, go_sem]) rfl ⟨rfl, mm, rfl, HF.out⟩

theorem putGrams_any (p : Nat) (ks : List Kind) (w : World) (h : BookP w p ks (CD 9) (fun _ => True)) : Calls Tryz.prog 50 #[.pointer (some ⟨p, 0, none⟩)] w (PutTo p 9 ks w) := by
  obtain ⟨k, hk⟩ : ∃ k, ks[9]? = some k := ⟨_, List.getElem?_eq_getElem (by rw [h.len]; decide)⟩
  obtain ⟨h4, hv⟩ := h.vrow 9 _ k rfl hk
  obtain ⟨m, hm⟩ : ∃ m, m = k.its.length := ⟨_, rfl⟩
  rw [← hm] at h4 hv
  obtain ⟨A8, c8, ev⟩ := own_shape hv
  have c0 : w.cell? ⟨p, 18, none⟩ = some (.slice A8 m c8) := by rw [cell_of_row w p 18 _ _ _ h.heap]; exact (flat_get ks 9 k hk).1.trans (by rw [ev])
  have hvF : ∀ x, FA ks 9 x → k.v.ownBlock ≠ some x := fun x hx => (hx.far (h.apart x)).2.1 9 k hk
  rw [ev] at hv hvF
  have hpF : ¬ FA ks 9 p := fun e => (e.far (h.apart p)).1 rfl
  have hpl := (Array.getElem?_eq_some_iff.1 h.heap).1
  have i1 : Old p w := ⟨hpl⟩
  have iP : Out p (FA ks 9) := ⟨hpF⟩
  have HM := Lib.hid hm
  have HH := Lib.hid h
  have HK := Lib.hid hk
  clear hm ev hk h
  go_enter Tryz.func50, Tryz.ntmps50
  go_wp2
  go_loopw [2] (fun i wr => ∃ (q : Nat) (mm : Muts (FA ks 9) w), q ≤ m ∧ i = .int .i64 q ∧ wr = mm.w ∧ (∀ (j : Nat) (it : Kept), k.its[j]? = some it → j < q → mm.w.ownsRow 0 110 4 it.a it.n (XM 9 j it.n)) ∧ (∀ (j : Nat) (it : Kept), k.its[j]? = some it → q ≤ j → mm.w.ownsRow 0 110 4 it.a it.n (CD 9 9 j it))) (fun i _ => m - (intOf i).toNat)
  case atStart => exact ⟨0, ⟨w, Chg.refl _ _⟩, Nat.zero_le _, rfl, rfl, fun j it _ hj => by omega, fun j it hj _ => (HH.out.els 9 _ k j it rfl HK.out hj).2.1 trivial⟩
  case round =>
    obtain ⟨q, mm, hq, rfl, rfl, hdone, htodo⟩ := hrel
    by_cases hlt : q < m
    · obtain ⟨it, hj⟩ : ∃ it, k.its[q]? = some it := ⟨_, List.getElem?_eq_getElem (by have := HM.out; omega)⟩
      have ha := htodo q it hj (Nat.le_refl _)
      have hn := (HH.out.els 9 _ k q it rfl HK.out hj).1
      have hfa : ∀ x, it.a.ownBlock = some x → FA ks 9 x := fun x hx => ⟨k, HK.out, it, List.mem_of_getElem? hj, hx⟩
      have hoth : ∀ (j : Nat) (it' : Kept), k.its[j]? = some it' → j ≠ q → ∀ x, it.a.ownBlock = some x → it'.a.ownBlock ≠ some x := fun j it' hj' hne x hx => its_far HK.out (HH.out.apart x) hj hj' (fun e => hne e.symm) hx
      have hlq : q < k.its.length := by have := HM.out; omega
      obtain ⟨n, hnn⟩ : ∃ n, n = it.n := ⟨_, rfl⟩
      rw [← hnn] at ha hn
      obtain ⟨Aa, ca, ea⟩ := own_shape ha
      rw [ea] at ha hfa hoth
      obtain ⟨g8, cap8, e8, _, l8⟩ := hv.form (by omega)
      cases e8
      have hg8 : ¬ FA ks 9 g8 := fun e => hvF g8 e rfl
      have iG : Out g8 (FA ks 9) := ⟨hg8⟩
      have i2 : Old g8 w := ⟨l8⟩
      have d0 : w.cell? ⟨g8, q, none⟩ = some (.slice Aa n ca) := by rw [hv.cellAt q (by omega), List.getElem?_map, hj, ← ea]; rfl
      have hmark := fun W => markGrams_any q 0 n W (by omega) (by omega)
      have e0 : mm.w.cell? ⟨p, 18, none⟩ = some (.slice (some ⟨g8, 0, none⟩) m c8) := by simp [go_sem, c0]
      have e1 : mm.w.cell? ⟨g8, q, none⟩ = some (.slice Aa n ca) := by simp [go_sem, d0]
      have j1 : Old p mm.w := inferInstance
      have j2 : Old g8 mm.w := inferInstance
      have HJ := Lib.hid (And.intro hj (And.intro hnn ea))
      have HD := Lib.hid (And.intro hdone htodo)
      have hmc := mm.h
      generalize mm.w = W1 at *
      clear hdone htodo hj hnn ea c0 d0 mm
      go_wp2_with (go_at_call 120; refine (hmark _).mono ?_; rintro e w1 ⟨Ab, cb, rfl, hob, g1, rfl⟩)
      have hc1 : Chg Noth W1 g1.w := (by repeat (with_reducible first | exact Chg.refl _ _ | refine chg_m ?_ _ | refine chg_g ?_ _ | refine chg_alloc ?_ _ | refine chg_drew ?_ | refine chg_drewN ?_ _ | refine chg_set ?_ _ _ _))
      have f0 : g1.w.cell? ⟨p, 18, none⟩ = some (.slice (some ⟨g8, 0, none⟩) m c8) := by simp [go_sem, e0]
      have f1 : g1.w.cell? ⟨g8, q, none⟩ = some (.slice Aa n ca) := by simp [go_sem, e1]
      have ha1 := own_chg ha hc1 fun _ _ e => e
      have hs1 := hc1.size
      have hW1s : ∀ x, FA ks 9 x → x < W1.heap.size := fun x hx => Nat.lt_of_lt_of_le (HH.out.blt hx trivial) hmc.size
      have k1 : Old p g1.w := ⟨by have := j1.lt; omega⟩
      have k2 : Old g8 g1.w := ⟨by have := j2.lt; omega⟩
      have hnb : ∀ x, (Value.slice Ab n cb).ownBlock = some x → W1.heap.size ≤ x := fun x hx => by have := (hob.lt x hx).1; simpa using this
      generalize g1.w = W2 at *
      have HA := Lib.hid ha1
      have HB := Lib.hid hob
      clear ha ha1 hob e0 e1 j1 j2
      have hX0 : (CD 9 9 q it).length = n * 4 := HA.out.1
      generalize CD 9 9 q it = X0 at HA hX0
      go_loopw [4] (fun i' wr => ∃ z : Nat, z ≤ n ∧ i' = .int .i64 z ∧ Chg (fun x => (Value.slice Aa n ca).ownBlock = some x) W2 wr ∧ wr.ownsRow 0 110 4 (.slice Aa n ca) n (marks mkGrams q 0 z ++ X0.drop (z * 4))) (fun i' _ => n - (intOf i').toNat)
      case atStart => exact ⟨0, Nat.zero_le _, rfl, Chg.refl _ _, by simpa [marks_zero] using HA.out⟩
      case round =>
        obtain ⟨z, hz, rfl, hcx, hox⟩ := hrel
        by_cases hzn : z < n
        · obtain ⟨ga, cap0, e8, _, lga⟩ := hox.form (by omega)
          cases e8
          obtain ⟨gb, cap1, e9, _, lgb⟩ := HB.out.form (by omega)
          cases e9
          have hgb : W1.heap.size ≤ gb := hnb gb rfl
          have hgaF := hfa ga rfl
          have hga := hW1s ga hgaF
          have n1 : ¬ ga = p := fun e => hpF (e ▸ hgaF)
          have n2 : ¬ ga = g8 := fun e => hg8 (e ▸ hgaF)
          have n3 : ¬ ga = gb := by omega
          have n1' : ¬ p = ga := fun e => n1 e.symm
          have n2' : ¬ g8 = ga := fun e => n2 e.symm
          have n3' : ¬ gb = ga := fun e => n3 e.symm
          have b0 : wr.cell? ⟨p, 18, none⟩ = some (.slice (some ⟨g8, 0, none⟩) m c8) := (hcx.cell (p := ⟨p, 18, none⟩) k1.lt (fun e => by simp [Value.ownBlock] at e; exact n1 e)).trans f0
          have b1 : wr.cell? ⟨g8, q, none⟩ = some (.slice (some ⟨ga, 0, none⟩) n ca) := (hcx.cell (p := ⟨g8, q, none⟩) k2.lt (fun e => by simp [Value.ownBlock] at e; exact n2 e)).trans f1
          have m0 : wr.cell? ⟨gb, z * 4, none⟩ = some (i64 (-1 - q)) := (hcx.cell (p := ⟨gb, z * 4, none⟩) lgb (fun e => by simp [Value.ownBlock] at e; exact n3 e)).trans ((HB.out.cellAt (z * 4) (by omega)).trans ((by have h0 := marks_get (f := mkGrams) (i := q) (fr := 0) (n := n) (sz := 4) mkGrams_len hzn (show 0 < 4 by decide); simpa [mkGrams] using h0)))
          have m1 : wr.cell? ⟨gb, z * 4 + 1, none⟩ = some (i64 z) := (hcx.cell (p := ⟨gb, z * 4 + 1, none⟩) lgb (fun e => by simp [Value.ownBlock] at e; exact n3 e)).trans ((HB.out.cellAt (z * 4 + 1) (by omega)).trans ((by have h0 := marks_get (f := mkGrams) (i := q) (fr := 0) (n := n) (sz := 4) mkGrams_len hzn (show 1 < 4 by decide); simpa [mkGrams] using h0)))
          have m2 : wr.cell? ⟨gb, z * 4 + 2, none⟩ = some (i64 0) := (hcx.cell (p := ⟨gb, z * 4 + 2, none⟩) lgb (fun e => by simp [Value.ownBlock] at e; exact n3 e)).trans ((HB.out.cellAt (z * 4 + 2) (by omega)).trans ((by have h0 := marks_get (f := mkGrams) (i := q) (fr := 0) (n := n) (sz := 4) mkGrams_len hzn (show 2 < 4 by decide); simpa [mkGrams] using h0)))
          have m3 : wr.cell? ⟨gb, z * 4 + 3, none⟩ = some (.slice none 0 0) := (hcx.cell (p := ⟨gb, z * 4 + 3, none⟩) lgb (fun e => by simp [Value.ownBlock] at e; exact n3 e)).trans ((HB.out.cellAt (z * 4 + 3) (by omega)).trans ((by have h0 := marks_get (f := mkGrams) (i := q) (fr := 0) (n := n) (sz := 4) mkGrams_len hzn (show 3 < 4 by decide); simpa [mkGrams] using h0)))
          have hlen0 : (marks mkGrams q 0 z).length = z * 4 := marks_len mkGrams_len
          obtain ⟨hds, hdl⟩ := drop_split hX0 hzn
          generalize (X0.drop (z * 4)).take 4 = Bz at hds hdl
          rw [hds] at hox
          match Bz, hdl with
          | [b0_, b1_, b2_, b3_], _ =>
            obtain ⟨y0_, y0⟩ : ∃ u, wr.cell? ⟨ga, z * 4, none⟩ = some u := ⟨_, (hox.cellAt (z * 4) (by omega)).trans (List.getElem?_eq_getElem (by rw [hox.1]; omega))⟩
            obtain ⟨y1_, y1⟩ : ∃ u, wr.cell? ⟨ga, z * 4 + 1, none⟩ = some u := ⟨_, (hox.cellAt (z * 4 + 1) (by omega)).trans (List.getElem?_eq_getElem (by rw [hox.1]; omega))⟩
            obtain ⟨y2_, y2⟩ : ∃ u, wr.cell? ⟨ga, z * 4 + 2, none⟩ = some u := ⟨_, (hox.cellAt (z * 4 + 2) (by omega)).trans (List.getElem?_eq_getElem (by rw [hox.1]; omega))⟩
            obtain ⟨y3_, y3⟩ : ∃ u, wr.cell? ⟨ga, z * 4 + 3, none⟩ = some u := ⟨_, (hox.cellAt (z * 4 + 3) (by omega)).trans (List.getElem?_eq_getElem (by rw [hox.1]; omega))⟩
            have hfz : ∀ o, wr.frozen? ⟨ga, o, none⟩ = false := fun o => own_fz hox
            have jp : Old p wr := ⟨Nat.lt_of_lt_of_le k1.lt hcx.size⟩
            have jg8 : Old g8 wr := ⟨Nat.lt_of_lt_of_le k2.lt hcx.size⟩
            have jga : Old ga wr := ⟨Nat.lt_of_lt_of_le (by omega) hcx.size⟩
            have jgb : Old gb wr := ⟨Nat.lt_of_lt_of_le lgb hcx.size⟩
            have h0_ : HasCell wr ga (z * 4) := ⟨by rw [y0]; rfl⟩
            have h1_ : HasCell wr ga (z * 4 + 1) := ⟨by rw [y1]; rfl⟩
            have h2_ : HasCell wr ga (z * 4 + 2) := ⟨by rw [y2]; rfl⟩
            have h3_ : HasCell wr ga (z * 4 + 3) := ⟨by rw [y3]; rfl⟩
            have HOX := Lib.hid (And.intro hox (And.intro hcx (And.intro hlen0 hds)))
            clear hox hcx hlen0 hds hdl
            go_wp2
            go_region_held_law (fun W' => W'.cell? ⟨p, 18, none⟩ = some (.slice (some ⟨g8, 0, none⟩) m c8) ∧ W'.cell? ⟨g8, q, none⟩ = some (.slice (some ⟨ga, 0, none⟩) n ca) ∧ W'.cell? ⟨gb, z * 4, none⟩ = some (i64 (-1 - q)) ∧ W'.cell? ⟨gb, z * 4 + 1, none⟩ = some (i64 z) ∧ W'.cell? ⟨gb, z * 4 + 2, none⟩ = some (i64 0) ∧ W'.cell? ⟨gb, z * 4 + 3, none⟩ = some (.slice none 0 0)) (refine ⟨?_, ?_, ?_, ?_, ?_, ?_⟩ <;> simp [go_sem, *]) (fail)
            obtain ⟨hox, hcx, hlen0, hds⟩ := HOX.out
            have hle4 : (z + 1) * 4 ≤ n * 4 := Nat.mul_le_mul_right _ hzn
            have o4 := own_put1 (.slice none 0 0) (own_put1 (i64 0) (own_put1 (i64 z) (own_put1 (i64 (-1 - q)) (hox) (o := z * 4) (by omega)) (o := z * 4 + 1) (by omega)) (o := z * 4 + 2) (by omega)) (o := z * 4 + 3) (by omega)
            have e4 : (((((marks mkGrams q 0 z ++ ([b0_, b1_, b2_, b3_] ++ X0.drop ((z + 1) * 4))).set (z * 4) (i64 (-1 - q))).set (z * 4 + 1) (i64 z)).set (z * 4 + 2) (i64 0)).set (z * 4 + 3) (.slice none 0 0)) = marks mkGrams q 0 (z + 1) ++ X0.drop ((z + 1) * 4) := by
              rw [marks_succ, List.append_assoc]
              simp [List.set_append, hlen0, mkGrams]
            rw [e4] at o4
            have hmay : May ga (fun x => (Value.slice (some ⟨ga, 0, none⟩) n ca).ownBlock = some x) W2 := ⟨.inl rfl⟩
            have c4 : Chg (fun x => (Value.slice (some ⟨ga, 0, none⟩) n ca).ownBlock = some x) W2 ((((wr.setCell ⟨ga, z * 4, none⟩ (i64 (-1 - q))).setCell ⟨ga, z * 4 + 1, none⟩ (i64 z)).setCell ⟨ga, z * 4 + 2, none⟩ (i64 0)).setCell ⟨ga, z * 4 + 3, none⟩ (.slice none 0 0)) := (chg_set (chg_set (chg_set (chg_set hcx _ _ _) _ _ _) _ _ _) _ _ _)
            have H4 := Lib.hid (And.intro o4 c4)
            clear o4 c4 e4
            go_wp2
            exact ⟨⟨z + 1, by omega, by simp, chg_drew H4.out.2, H4.out.1⟩, by simp [intOf]; omega⟩
        · obtain rfl : z = n := by omega
          obtain ⟨hj, hnn, ea⟩ := HJ.out
          obtain ⟨hdone, htodo⟩ := HD.out
          have hX : X0.drop (z * 4) = [] := List.drop_eq_nil_of_le (by omega)
          rw [hX, List.append_nil] at hox
          have hcA : Chg (FA ks 9) w wr := (hmc.trans (G := FA ks 9) (hc1.mono fun _ _ e => e.elim) fun _ _ e => e).trans hcx fun x _ e => hfa x e
          have hkeep : ∀ (j : Nat) (it' : Kept) (xs : List Value), k.its[j]? = some it' → j ≠ q → W1.ownsRow 0 110 4 it'.a it'.n xs → wr.ownsRow 0 110 4 it'.a it'.n xs := fun j it' xs hj' hne ho => own_chg (own_chg ho hc1 fun _ _ e => e) hcx fun x hx e => hoth j it' hj' hne x e hx
          have HR : Hid ((∀ (j : Nat) (it : Kept), k.its[j]? = some it → j < q + 1 → wr.ownsRow 0 110 4 it.a it.n (XM 9 j it.n)) ∧ (∀ (j : Nat) (it : Kept), k.its[j]? = some it → q + 1 ≤ j → wr.ownsRow 0 110 4 it.a it.n (CD 9 9 j it))) := Lib.hid ⟨fun j it' hj' hlt' => by
            by_cases hjq : j = q
            · subst hjq
              rw [hj] at hj'
              cases hj'
              rw [ea, ← hnn]
              exact hox
            · exact hkeep j it' _ hj' hjq (hdone j it' hj' (by omega)), fun j it' hj' hle' => hkeep j it' _ hj' (by omega) (htodo j it' hj' (by omega))⟩
          clear hox hj hnn ea hdone htodo hkeep hX hcx
          go_wp2
          exact ⟨⟨q + 1, ⟨wr, hcA⟩, by omega, by simp, rfl, HR.out⟩, by simp [intOf]; omega⟩
    · obtain rfl : q = m := by omega
      have hfin := book_put HH.out rfl HK.out mm.h fun j it hj => hdone j it hj (by have := (List.getElem?_eq_some_iff.1 hj).1; have := HM.out; omega)
      have HF := Lib.hid hfin
      clear hdone htodo hfin
      have hmc : mm.w.cell? ⟨p, 18, none⟩ = some (.slice A8 q c8) := by simp [go_sem, c0]
      have j1 : Old p mm.w := inferInstance
      go_wp2
      exact bodyPost_ret (v := .tuple #[]) (by simp [results, Tryz.results50, go_sem]) rfl ⟨rfl, mm, rfl, HF.out⟩

theorem putInts_any (p : Nat) (ks : List Kind) (w : World) (h : BookP w p ks (CD 0) (fun _ => True)) : Calls Tryz.prog 41 #[.pointer (some ⟨p, 0, none⟩)] w (PutTo p 0 ks w) := by
  obtain ⟨k, hk⟩ : ∃ k, ks[0]? = some k := ⟨_, List.getElem?_eq_getElem (by rw [h.len]; decide)⟩
  obtain ⟨h4, hv⟩ := h.vrow 0 _ k rfl hk
  obtain ⟨m, hm⟩ : ∃ m, m = k.its.length := ⟨_, rfl⟩
  rw [← hm] at h4 hv
  obtain ⟨A8, c8, ev⟩ := own_shape hv
  have c0 : w.cell? ⟨p, 0, none⟩ = some (.slice A8 m c8) := by rw [cell_of_row w p 0 _ _ _ h.heap]; exact (flat_get ks 0 k hk).1.trans (by rw [ev])
  have hvF : ∀ x, FA ks 0 x → k.v.ownBlock ≠ some x := fun x hx => (hx.far (h.apart x)).2.1 0 k hk
  rw [ev] at hv hvF
  have hpF : ¬ FA ks 0 p := fun e => (e.far (h.apart p)).1 rfl
  have hpl := (Array.getElem?_eq_some_iff.1 h.heap).1
  have i1 : Old p w := ⟨hpl⟩
  have iP : Out p (FA ks 0) := ⟨hpF⟩
  have HM := Lib.hid hm
  have HH := Lib.hid h
  have HK := Lib.hid hk
  clear hm ev hk h
  go_enter Tryz.func41, Tryz.ntmps41
  go_wp2
  go_loopw [2] (fun i wr => ∃ (q : Nat) (mm : Muts (FA ks 0) w), q ≤ m ∧ i = .int .i64 q ∧ wr = mm.w ∧ (∀ (j : Nat) (it : Kept), k.its[j]? = some it → j < q → mm.w.ownsRow 0 3 1 it.a it.n (XM 0 j it.n)) ∧ (∀ (j : Nat) (it : Kept), k.its[j]? = some it → q ≤ j → mm.w.ownsRow 0 3 1 it.a it.n (CD 0 0 j it))) (fun i _ => m - (intOf i).toNat)
  case atStart => exact ⟨0, ⟨w, Chg.refl _ _⟩, Nat.zero_le _, rfl, rfl, fun j it _ hj => by omega, fun j it hj _ => (HH.out.els 0 _ k j it rfl HK.out hj).2.1 trivial⟩
  case round =>
    obtain ⟨q, mm, hq, rfl, rfl, hdone, htodo⟩ := hrel
    by_cases hlt : q < m
    · obtain ⟨it, hj⟩ : ∃ it, k.its[q]? = some it := ⟨_, List.getElem?_eq_getElem (by have := HM.out; omega)⟩
      have ha := htodo q it hj (Nat.le_refl _)
      have hn := (HH.out.els 0 _ k q it rfl HK.out hj).1
      have hfa : ∀ x, it.a.ownBlock = some x → FA ks 0 x := fun x hx => ⟨k, HK.out, it, List.mem_of_getElem? hj, hx⟩
      have hoth : ∀ (j : Nat) (it' : Kept), k.its[j]? = some it' → j ≠ q → ∀ x, it.a.ownBlock = some x → it'.a.ownBlock ≠ some x := fun j it' hj' hne x hx => its_far HK.out (HH.out.apart x) hj hj' (fun e => hne e.symm) hx
      have hlq : q < k.its.length := by have := HM.out; omega
      obtain ⟨n, hnn⟩ : ∃ n, n = it.n := ⟨_, rfl⟩
      rw [← hnn] at ha hn
      obtain ⟨Aa, ca, ea⟩ := own_shape ha
      rw [ea] at ha hfa hoth
      obtain ⟨g8, cap8, e8, _, l8⟩ := hv.form (by omega)
      cases e8
      have hg8 : ¬ FA ks 0 g8 := fun e => hvF g8 e rfl
      have iG : Out g8 (FA ks 0) := ⟨hg8⟩
      have i2 : Old g8 w := ⟨l8⟩
      have d0 : w.cell? ⟨g8, q, none⟩ = some (.slice Aa n ca) := by rw [hv.cellAt q (by omega), List.getElem?_map, hj, ← ea]; rfl
      have hmark := fun W => markInts_any q 0 n W (by omega) (by omega)
      have e0 : mm.w.cell? ⟨p, 0, none⟩ = some (.slice (some ⟨g8, 0, none⟩) m c8) := by simp [go_sem, c0]
      have e1 : mm.w.cell? ⟨g8, q, none⟩ = some (.slice Aa n ca) := by simp [go_sem, d0]
      have j1 : Old p mm.w := inferInstance
      have j2 : Old g8 mm.w := inferInstance
      have HJ := Lib.hid (And.intro hj (And.intro hnn ea))
      have HD := Lib.hid (And.intro hdone htodo)
      have hmc := mm.h
      generalize mm.w = W1 at *
      clear hdone htodo hj hnn ea c0 d0 mm
      go_wp2_with (go_at_call 111; refine (hmark _).mono ?_; rintro e w1 ⟨Ab, cb, rfl, hob, g1, rfl⟩)
      have hc1 : Chg Noth W1 g1.w := (by repeat (with_reducible first | exact Chg.refl _ _ | refine chg_m ?_ _ | refine chg_g ?_ _ | refine chg_alloc ?_ _ | refine chg_drew ?_ | refine chg_drewN ?_ _ | refine chg_set ?_ _ _ _))
      have f0 : g1.w.cell? ⟨p, 0, none⟩ = some (.slice (some ⟨g8, 0, none⟩) m c8) := by simp [go_sem, e0]
      have f1 : g1.w.cell? ⟨g8, q, none⟩ = some (.slice Aa n ca) := by simp [go_sem, e1]
      have ha1 := own_chg ha hc1 fun _ _ e => e
      have hs1 := hc1.size
      have hW1s : ∀ x, FA ks 0 x → x < W1.heap.size := fun x hx => Nat.lt_of_lt_of_le (HH.out.blt hx trivial) hmc.size
      have k1 : Old p g1.w := ⟨by have := j1.lt; omega⟩
      have k2 : Old g8 g1.w := ⟨by have := j2.lt; omega⟩
      have hnb : ∀ x, (Value.slice Ab n cb).ownBlock = some x → W1.heap.size ≤ x := fun x hx => by have := (hob.lt x hx).1; simpa using this
      generalize g1.w = W2 at *
      have HA := Lib.hid ha1
      have HB := Lib.hid hob
      clear ha ha1 hob e0 e1 j1 j2
      have hX0 : (CD 0 0 q it).length = n * 1 := HA.out.1
      generalize CD 0 0 q it = X0 at HA hX0
      go_loopw [4] (fun i' wr => ∃ z : Nat, z ≤ n ∧ i' = .int .i64 z ∧ Chg (fun x => (Value.slice Aa n ca).ownBlock = some x) W2 wr ∧ wr.ownsRow 0 3 1 (.slice Aa n ca) n (marks mkInts q 0 z ++ X0.drop (z * 1))) (fun i' _ => n - (intOf i').toNat)
      case atStart => exact ⟨0, Nat.zero_le _, rfl, Chg.refl _ _, by simpa [marks_zero] using HA.out⟩
      case round =>
        obtain ⟨z, hz, rfl, hcx, hox⟩ := hrel
        by_cases hzn : z < n
        · obtain ⟨ga, cap0, e8, _, lga⟩ := hox.form (by omega)
          cases e8
          obtain ⟨gb, cap1, e9, _, lgb⟩ := HB.out.form (by omega)
          cases e9
          have hgb : W1.heap.size ≤ gb := hnb gb rfl
          have hgaF := hfa ga rfl
          have hga := hW1s ga hgaF
          have n1 : ¬ ga = p := fun e => hpF (e ▸ hgaF)
          have n2 : ¬ ga = g8 := fun e => hg8 (e ▸ hgaF)
          have n3 : ¬ ga = gb := by omega
          have n1' : ¬ p = ga := fun e => n1 e.symm
          have n2' : ¬ g8 = ga := fun e => n2 e.symm
          have n3' : ¬ gb = ga := fun e => n3 e.symm
          have b0 : wr.cell? ⟨p, 0, none⟩ = some (.slice (some ⟨g8, 0, none⟩) m c8) := (hcx.cell (p := ⟨p, 0, none⟩) k1.lt (fun e => by simp [Value.ownBlock] at e; exact n1 e)).trans f0
          have b1 : wr.cell? ⟨g8, q, none⟩ = some (.slice (some ⟨ga, 0, none⟩) n ca) := (hcx.cell (p := ⟨g8, q, none⟩) k2.lt (fun e => by simp [Value.ownBlock] at e; exact n2 e)).trans f1
          have m0 : wr.cell? ⟨gb, z, none⟩ = some (i64 (-1000000 * q - z - 7)) := (hcx.cell (p := ⟨gb, z, none⟩) lgb (fun e => by simp [Value.ownBlock] at e; exact n3 e)).trans ((HB.out.cellAt (z) (by omega)).trans ((by have h0 := marks_get (f := mkInts) (i := q) (fr := 0) (n := n) (sz := 1) mkInts_len hzn (show 0 < 1 by decide); simpa [mkInts] using h0)))
          have hlen0 : (marks mkInts q 0 z).length = z * 1 := marks_len mkInts_len
          obtain ⟨hds, hdl⟩ := drop_split hX0 hzn
          generalize (X0.drop (z * 1)).take 1 = Bz at hds hdl
          rw [hds] at hox
          match Bz, hdl with
          | [b0_], _ =>
            obtain ⟨y0_, y0⟩ : ∃ u, wr.cell? ⟨ga, z, none⟩ = some u := ⟨_, (hox.cellAt (z) (by omega)).trans (List.getElem?_eq_getElem (by rw [hox.1]; omega))⟩
            have hfz : ∀ o, wr.frozen? ⟨ga, o, none⟩ = false := fun o => own_fz hox
            have jp : Old p wr := ⟨Nat.lt_of_lt_of_le k1.lt hcx.size⟩
            have jg8 : Old g8 wr := ⟨Nat.lt_of_lt_of_le k2.lt hcx.size⟩
            have jga : Old ga wr := ⟨Nat.lt_of_lt_of_le (by omega) hcx.size⟩
            have jgb : Old gb wr := ⟨Nat.lt_of_lt_of_le lgb hcx.size⟩
            have h0_ : HasCell wr ga (z) := ⟨by rw [y0]; rfl⟩
            have HOX := Lib.hid (And.intro hox (And.intro hcx (And.intro hlen0 hds)))
            clear hox hcx hlen0 hds hdl
            go_wp2
            go_region_held_law (fun W' => W'.cell? ⟨p, 0, none⟩ = some (.slice (some ⟨g8, 0, none⟩) m c8) ∧ W'.cell? ⟨g8, q, none⟩ = some (.slice (some ⟨ga, 0, none⟩) n ca) ∧ W'.cell? ⟨gb, z, none⟩ = some (i64 (-1000000 * q - z - 7))) (refine ⟨?_, ?_, ?_⟩ <;> simp [go_sem, *]) (fail)
            obtain ⟨hox, hcx, hlen0, hds⟩ := HOX.out
            have hle4 : (z + 1) * 1 ≤ n * 1 := Nat.mul_le_mul_right _ hzn
            have o4 := own_put1 (i64 (-1000000 * q - z - 7)) (hox) (o := z) (by omega)
            have e4 : ((marks mkInts q 0 z ++ ([b0_] ++ X0.drop ((z + 1) * 1))).set (z) (i64 (-1000000 * q - z - 7))) = marks mkInts q 0 (z + 1) ++ X0.drop ((z + 1) * 1) := by
              rw [marks_succ, List.append_assoc]
              simp [List.set_append, hlen0, mkInts]
            rw [e4] at o4
            have hmay : May ga (fun x => (Value.slice (some ⟨ga, 0, none⟩) n ca).ownBlock = some x) W2 := ⟨.inl rfl⟩
            have c4 : Chg (fun x => (Value.slice (some ⟨ga, 0, none⟩) n ca).ownBlock = some x) W2 (wr.setCell ⟨ga, z, none⟩ (i64 (-1000000 * q - z - 7))) := (chg_set hcx _ _ _)
            have H4 := Lib.hid (And.intro o4 c4)
            clear o4 c4 e4
            go_wp2
            exact ⟨⟨z + 1, by omega, by simp, chg_drew H4.out.2, H4.out.1⟩, by simp [intOf]; omega⟩
        · obtain rfl : z = n := by omega
          obtain ⟨hj, hnn, ea⟩ := HJ.out
          obtain ⟨hdone, htodo⟩ := HD.out
          have hX : X0.drop (z * 1) = [] := List.drop_eq_nil_of_le (by omega)
          rw [hX, List.append_nil] at hox
          have hcA : Chg (FA ks 0) w wr := (hmc.trans (G := FA ks 0) (hc1.mono fun _ _ e => e.elim) fun _ _ e => e).trans hcx fun x _ e => hfa x e
          have hkeep : ∀ (j : Nat) (it' : Kept) (xs : List Value), k.its[j]? = some it' → j ≠ q → W1.ownsRow 0 3 1 it'.a it'.n xs → wr.ownsRow 0 3 1 it'.a it'.n xs := fun j it' xs hj' hne ho => own_chg (own_chg ho hc1 fun _ _ e => e) hcx fun x hx e => hoth j it' hj' hne x e hx
          have HR : Hid ((∀ (j : Nat) (it : Kept), k.its[j]? = some it → j < q + 1 → wr.ownsRow 0 3 1 it.a it.n (XM 0 j it.n)) ∧ (∀ (j : Nat) (it : Kept), k.its[j]? = some it → q + 1 ≤ j → wr.ownsRow 0 3 1 it.a it.n (CD 0 0 j it))) := Lib.hid ⟨fun j it' hj' hlt' => by
            by_cases hjq : j = q
            · subst hjq
              rw [hj] at hj'
              cases hj'
              rw [ea, ← hnn]
              exact hox
            · exact hkeep j it' _ hj' hjq (hdone j it' hj' (by omega)), fun j it' hj' hle' => hkeep j it' _ hj' (by omega) (htodo j it' hj' (by omega))⟩
          clear hox hj hnn ea hdone htodo hkeep hX hcx
          go_wp2
          exact ⟨⟨q + 1, ⟨wr, hcA⟩, by omega, by simp, rfl, HR.out⟩, by simp [intOf]; omega⟩
    · obtain rfl : q = m := by omega
      have hfin := book_put HH.out rfl HK.out mm.h fun j it hj => hdone j it hj (by have := (List.getElem?_eq_some_iff.1 hj).1; have := HM.out; omega)
      have HF := Lib.hid hfin
      clear hdone htodo hfin
      have hmc : mm.w.cell? ⟨p, 0, none⟩ = some (.slice A8 q c8) := by simp [go_sem, c0]
      have j1 : Old p mm.w := inferInstance
      go_wp2
      exact bodyPost_ret (v := .tuple #[]) (by simp [results, Tryz.results41, go_sem]) rfl ⟨rfl, mm, rfl, HF.out⟩

theorem putNotices_any (p : Nat) (ks : List Kind) (w : World) (h : BookP w p ks (CD 3) (fun _ => True)) : Calls Tryz.prog 44 #[.pointer (some ⟨p, 0, none⟩)] w (PutTo p 3 ks w) := by
  obtain ⟨k, hk⟩ : ∃ k, ks[3]? = some k := ⟨_, List.getElem?_eq_getElem (by rw [h.len]; decide)⟩
  obtain ⟨h4, hv⟩ := h.vrow 3 _ k rfl hk
  obtain ⟨m, hm⟩ : ∃ m, m = k.its.length := ⟨_, rfl⟩
  rw [← hm] at h4 hv
  obtain ⟨A8, c8, ev⟩ := own_shape hv
  have c0 : w.cell? ⟨p, 6, none⟩ = some (.slice A8 m c8) := by rw [cell_of_row w p 6 _ _ _ h.heap]; exact (flat_get ks 3 k hk).1.trans (by rw [ev])
  have hvF : ∀ x, FA ks 3 x → k.v.ownBlock ≠ some x := fun x hx => (hx.far (h.apart x)).2.1 3 k hk
  rw [ev] at hv hvF
  have hpF : ¬ FA ks 3 p := fun e => (e.far (h.apart p)).1 rfl
  have hpl := (Array.getElem?_eq_some_iff.1 h.heap).1
  have i1 : Old p w := ⟨hpl⟩
  have iP : Out p (FA ks 3) := ⟨hpF⟩
  have HM := Lib.hid hm
  have HH := Lib.hid h
  have HK := Lib.hid hk
  clear hm ev hk h
  go_enter Tryz.func44, Tryz.ntmps44
  go_wp2
  go_loopw [2] (fun i wr => ∃ (q : Nat) (mm : Muts (FA ks 3) w), q ≤ m ∧ i = .int .i64 q ∧ wr = mm.w ∧ (∀ (j : Nat) (it : Kept), k.its[j]? = some it → j < q → mm.w.ownsRow 0 81 3 it.a it.n (XM 3 j it.n)) ∧ (∀ (j : Nat) (it : Kept), k.its[j]? = some it → q ≤ j → mm.w.ownsRow 0 81 3 it.a it.n (CD 3 3 j it))) (fun i _ => m - (intOf i).toNat)
  case atStart => exact ⟨0, ⟨w, Chg.refl _ _⟩, Nat.zero_le _, rfl, rfl, fun j it _ hj => by omega, fun j it hj _ => (HH.out.els 3 _ k j it rfl HK.out hj).2.1 trivial⟩
  case round =>
    obtain ⟨q, mm, hq, rfl, rfl, hdone, htodo⟩ := hrel
    by_cases hlt : q < m
    · obtain ⟨it, hj⟩ : ∃ it, k.its[q]? = some it := ⟨_, List.getElem?_eq_getElem (by have := HM.out; omega)⟩
      have ha := htodo q it hj (Nat.le_refl _)
      have hn := (HH.out.els 3 _ k q it rfl HK.out hj).1
      have hfa : ∀ x, it.a.ownBlock = some x → FA ks 3 x := fun x hx => ⟨k, HK.out, it, List.mem_of_getElem? hj, hx⟩
      have hoth : ∀ (j : Nat) (it' : Kept), k.its[j]? = some it' → j ≠ q → ∀ x, it.a.ownBlock = some x → it'.a.ownBlock ≠ some x := fun j it' hj' hne x hx => its_far HK.out (HH.out.apart x) hj hj' (fun e => hne e.symm) hx
      have hlq : q < k.its.length := by have := HM.out; omega
      obtain ⟨n, hnn⟩ : ∃ n, n = it.n := ⟨_, rfl⟩
      rw [← hnn] at ha hn
      obtain ⟨Aa, ca, ea⟩ := own_shape ha
      rw [ea] at ha hfa hoth
      obtain ⟨g8, cap8, e8, _, l8⟩ := hv.form (by omega)
      cases e8
      have hg8 : ¬ FA ks 3 g8 := fun e => hvF g8 e rfl
      have iG : Out g8 (FA ks 3) := ⟨hg8⟩
      have i2 : Old g8 w := ⟨l8⟩
      have d0 : w.cell? ⟨g8, q, none⟩ = some (.slice Aa n ca) := by rw [hv.cellAt q (by omega), List.getElem?_map, hj, ← ea]; rfl
      have hmark := fun W => markNotices_any q 0 n W (by omega) (by omega)
      have e0 : mm.w.cell? ⟨p, 6, none⟩ = some (.slice (some ⟨g8, 0, none⟩) m c8) := by simp [go_sem, c0]
      have e1 : mm.w.cell? ⟨g8, q, none⟩ = some (.slice Aa n ca) := by simp [go_sem, d0]
      have j1 : Old p mm.w := inferInstance
      have j2 : Old g8 mm.w := inferInstance
      have HJ := Lib.hid (And.intro hj (And.intro hnn ea))
      have HD := Lib.hid (And.intro hdone htodo)
      have hmc := mm.h
      generalize mm.w = W1 at *
      clear hdone htodo hj hnn ea c0 d0 mm
      go_wp2_with (go_at_call 114; refine (hmark _).mono ?_; rintro e w1 ⟨Ab, cb, rfl, hob, g1, rfl⟩)
      have hc1 : Chg Noth W1 g1.w := (by repeat (with_reducible first | exact Chg.refl _ _ | refine chg_m ?_ _ | refine chg_g ?_ _ | refine chg_alloc ?_ _ | refine chg_drew ?_ | refine chg_drewN ?_ _ | refine chg_set ?_ _ _ _))
      have f0 : g1.w.cell? ⟨p, 6, none⟩ = some (.slice (some ⟨g8, 0, none⟩) m c8) := by simp [go_sem, e0]
      have f1 : g1.w.cell? ⟨g8, q, none⟩ = some (.slice Aa n ca) := by simp [go_sem, e1]
      have ha1 := own_chg ha hc1 fun _ _ e => e
      have hs1 := hc1.size
      have hW1s : ∀ x, FA ks 3 x → x < W1.heap.size := fun x hx => Nat.lt_of_lt_of_le (HH.out.blt hx trivial) hmc.size
      have k1 : Old p g1.w := ⟨by have := j1.lt; omega⟩
      have k2 : Old g8 g1.w := ⟨by have := j2.lt; omega⟩
      have hnb : ∀ x, (Value.slice Ab n cb).ownBlock = some x → W1.heap.size ≤ x := fun x hx => by have := (hob.lt x hx).1; simpa using this
      generalize g1.w = W2 at *
      have HA := Lib.hid ha1
      have HB := Lib.hid hob
      clear ha ha1 hob e0 e1 j1 j2
      have hX0 : (CD 3 3 q it).length = n * 3 := HA.out.1
      generalize CD 3 3 q it = X0 at HA hX0
      go_loopw [4] (fun i' wr => ∃ z : Nat, z ≤ n ∧ i' = .int .i64 z ∧ Chg (fun x => (Value.slice Aa n ca).ownBlock = some x) W2 wr ∧ wr.ownsRow 0 81 3 (.slice Aa n ca) n (marks mkNotices q 0 z ++ X0.drop (z * 3))) (fun i' _ => n - (intOf i').toNat)
      case atStart => exact ⟨0, Nat.zero_le _, rfl, Chg.refl _ _, by simpa [marks_zero] using HA.out⟩
      case round =>
        obtain ⟨z, hz, rfl, hcx, hox⟩ := hrel
        by_cases hzn : z < n
        · obtain ⟨ga, cap0, e8, _, lga⟩ := hox.form (by omega)
          cases e8
          obtain ⟨gb, cap1, e9, _, lgb⟩ := HB.out.form (by omega)
          cases e9
          have hgb : W1.heap.size ≤ gb := hnb gb rfl
          have hgaF := hfa ga rfl
          have hga := hW1s ga hgaF
          have n1 : ¬ ga = p := fun e => hpF (e ▸ hgaF)
          have n2 : ¬ ga = g8 := fun e => hg8 (e ▸ hgaF)
          have n3 : ¬ ga = gb := by omega
          have n1' : ¬ p = ga := fun e => n1 e.symm
          have n2' : ¬ g8 = ga := fun e => n2 e.symm
          have n3' : ¬ gb = ga := fun e => n3 e.symm
          have b0 : wr.cell? ⟨p, 6, none⟩ = some (.slice (some ⟨g8, 0, none⟩) m c8) := (hcx.cell (p := ⟨p, 6, none⟩) k1.lt (fun e => by simp [Value.ownBlock] at e; exact n1 e)).trans f0
          have b1 : wr.cell? ⟨g8, q, none⟩ = some (.slice (some ⟨ga, 0, none⟩) n ca) := (hcx.cell (p := ⟨g8, q, none⟩) k2.lt (fun e => by simp [Value.ownBlock] at e; exact n2 e)).trans f1
          have m0 : wr.cell? ⟨gb, z * 3, none⟩ = some (i64 (-1 - q)) := (hcx.cell (p := ⟨gb, z * 3, none⟩) lgb (fun e => by simp [Value.ownBlock] at e; exact n3 e)).trans ((HB.out.cellAt (z * 3) (by omega)).trans ((by have h0 := marks_get (f := mkNotices) (i := q) (fr := 0) (n := n) (sz := 3) mkNotices_len hzn (show 0 < 3 by decide); simpa [mkNotices] using h0)))
          have m1 : wr.cell? ⟨gb, z * 3 + 1, none⟩ = some (i64 z) := (hcx.cell (p := ⟨gb, z * 3 + 1, none⟩) lgb (fun e => by simp [Value.ownBlock] at e; exact n3 e)).trans ((HB.out.cellAt (z * 3 + 1) (by omega)).trans ((by have h0 := marks_get (f := mkNotices) (i := q) (fr := 0) (n := n) (sz := 3) mkNotices_len hzn (show 1 < 3 by decide); simpa [mkNotices] using h0)))
          have m2 : wr.cell? ⟨gb, z * 3 + 2, none⟩ = some (i64 0) := (hcx.cell (p := ⟨gb, z * 3 + 2, none⟩) lgb (fun e => by simp [Value.ownBlock] at e; exact n3 e)).trans ((HB.out.cellAt (z * 3 + 2) (by omega)).trans ((by have h0 := marks_get (f := mkNotices) (i := q) (fr := 0) (n := n) (sz := 3) mkNotices_len hzn (show 2 < 3 by decide); simpa [mkNotices] using h0)))
          have hlen0 : (marks mkNotices q 0 z).length = z * 3 := marks_len mkNotices_len
          obtain ⟨hds, hdl⟩ := drop_split hX0 hzn
          generalize (X0.drop (z * 3)).take 3 = Bz at hds hdl
          rw [hds] at hox
          match Bz, hdl with
          | [b0_, b1_, b2_], _ =>
            obtain ⟨y0_, y0⟩ : ∃ u, wr.cell? ⟨ga, z * 3, none⟩ = some u := ⟨_, (hox.cellAt (z * 3) (by omega)).trans (List.getElem?_eq_getElem (by rw [hox.1]; omega))⟩
            obtain ⟨y1_, y1⟩ : ∃ u, wr.cell? ⟨ga, z * 3 + 1, none⟩ = some u := ⟨_, (hox.cellAt (z * 3 + 1) (by omega)).trans (List.getElem?_eq_getElem (by rw [hox.1]; omega))⟩
            obtain ⟨y2_, y2⟩ : ∃ u, wr.cell? ⟨ga, z * 3 + 2, none⟩ = some u := ⟨_, (hox.cellAt (z * 3 + 2) (by omega)).trans (List.getElem?_eq_getElem (by rw [hox.1]; omega))⟩
            have hfz : ∀ o, wr.frozen? ⟨ga, o, none⟩ = false := fun o => own_fz hox
            have jp : Old p wr := ⟨Nat.lt_of_lt_of_le k1.lt hcx.size⟩
            have jg8 : Old g8 wr := ⟨Nat.lt_of_lt_of_le k2.lt hcx.size⟩
            have jga : Old ga wr := ⟨Nat.lt_of_lt_of_le (by omega) hcx.size⟩
            have jgb : Old gb wr := ⟨Nat.lt_of_lt_of_le lgb hcx.size⟩
            have h0_ : HasCell wr ga (z * 3) := ⟨by rw [y0]; rfl⟩
            have h1_ : HasCell wr ga (z * 3 + 1) := ⟨by rw [y1]; rfl⟩
            have h2_ : HasCell wr ga (z * 3 + 2) := ⟨by rw [y2]; rfl⟩
            have HOX := Lib.hid (And.intro hox (And.intro hcx (And.intro hlen0 hds)))
            clear hox hcx hlen0 hds hdl
            go_wp2
            go_region_held_law (fun W' => W'.cell? ⟨p, 6, none⟩ = some (.slice (some ⟨g8, 0, none⟩) m c8) ∧ W'.cell? ⟨g8, q, none⟩ = some (.slice (some ⟨ga, 0, none⟩) n ca) ∧ W'.cell? ⟨gb, z * 3, none⟩ = some (i64 (-1 - q)) ∧ W'.cell? ⟨gb, z * 3 + 1, none⟩ = some (i64 z) ∧ W'.cell? ⟨gb, z * 3 + 2, none⟩ = some (i64 0)) (refine ⟨?_, ?_, ?_, ?_, ?_⟩ <;> simp [go_sem, *]) (fail)
            obtain ⟨hox, hcx, hlen0, hds⟩ := HOX.out
            have hle4 : (z + 1) * 3 ≤ n * 3 := Nat.mul_le_mul_right _ hzn
            have o4 := own_put1 (i64 0) (own_put1 (i64 z) (own_put1 (i64 (-1 - q)) (hox) (o := z * 3) (by omega)) (o := z * 3 + 1) (by omega)) (o := z * 3 + 2) (by omega)
            have e4 : ((((marks mkNotices q 0 z ++ ([b0_, b1_, b2_] ++ X0.drop ((z + 1) * 3))).set (z * 3) (i64 (-1 - q))).set (z * 3 + 1) (i64 z)).set (z * 3 + 2) (i64 0)) = marks mkNotices q 0 (z + 1) ++ X0.drop ((z + 1) * 3) := by
              rw [marks_succ, List.append_assoc]
              simp [List.set_append, hlen0, mkNotices]
            rw [e4] at o4
            have hmay : May ga (fun x => (Value.slice (some ⟨ga, 0, none⟩) n ca).ownBlock = some x) W2 := ⟨.inl rfl⟩
            have c4 : Chg (fun x => (Value.slice (some ⟨ga, 0, none⟩) n ca).ownBlock = some x) W2 (((wr.setCell ⟨ga, z * 3, none⟩ (i64 (-1 - q))).setCell ⟨ga, z * 3 + 1, none⟩ (i64 z)).setCell ⟨ga, z * 3 + 2, none⟩ (i64 0)) := (chg_set (chg_set (chg_set hcx _ _ _) _ _ _) _ _ _)
            have H4 := Lib.hid (And.intro o4 c4)
            clear o4 c4 e4
            go_wp2
            exact ⟨⟨z + 1, by omega, by simp, chg_drew H4.out.2, H4.out.1⟩, by simp [intOf]; omega⟩
        · obtain rfl : z = n := by omega
          obtain ⟨hj, hnn, ea⟩ := HJ.out
          obtain ⟨hdone, htodo⟩ := HD.out
          have hX : X0.drop (z * 3) = [] := List.drop_eq_nil_of_le (by omega)
          rw [hX, List.append_nil] at hox
          have hcA : Chg (FA ks 3) w wr := (hmc.trans (G := FA ks 3) (hc1.mono fun _ _ e => e.elim) fun _ _ e => e).trans hcx fun x _ e => hfa x e
          have hkeep : ∀ (j : Nat) (it' : Kept) (xs : List Value), k.its[j]? = some it' → j ≠ q → W1.ownsRow 0 81 3 it'.a it'.n xs → wr.ownsRow 0 81 3 it'.a it'.n xs := fun j it' xs hj' hne ho => own_chg (own_chg ho hc1 fun _ _ e => e) hcx fun x hx e => hoth j it' hj' hne x e hx
          have HR : Hid ((∀ (j : Nat) (it : Kept), k.its[j]? = some it → j < q + 1 → wr.ownsRow 0 81 3 it.a it.n (XM 3 j it.n)) ∧ (∀ (j : Nat) (it : Kept), k.its[j]? = some it → q + 1 ≤ j → wr.ownsRow 0 81 3 it.a it.n (CD 3 3 j it))) := Lib.hid ⟨fun j it' hj' hlt' => by
            by_cases hjq : j = q
            · subst hjq
              rw [hj] at hj'
              cases hj'
              rw [ea, ← hnn]
              exact hox
            · exact hkeep j it' _ hj' hjq (hdone j it' hj' (by omega)), fun j it' hj' hle' => hkeep j it' _ hj' (by omega) (htodo j it' hj' (by omega))⟩
          clear hox hj hnn ea hdone htodo hkeep hX hcx
          go_wp2
          exact ⟨⟨q + 1, ⟨wr, hcA⟩, by omega, by simp, rfl, HR.out⟩, by simp [intOf]; omega⟩
    · obtain rfl : q = m := by omega
      have hfin := book_put HH.out rfl HK.out mm.h fun j it hj => hdone j it hj (by have := (List.getElem?_eq_some_iff.1 hj).1; have := HM.out; omega)
      have HF := Lib.hid hfin
      clear hdone htodo hfin
      have hmc : mm.w.cell? ⟨p, 6, none⟩ = some (.slice A8 q c8) := by simp [go_sem, c0]
      have j1 : Old p mm.w := inferInstance
      go_wp2
      exact bodyPost_ret (v := .tuple #[]) (by simp [results, Tryz.results44, go_sem]) rfl ⟨rfl, mm, rfl, HF.out⟩

theorem putChars_any (p : Nat) (ks : List Kind) (w : World) (h : BookP w p ks (CD 1) (fun _ => True)) : Calls Tryz.prog 42 #[.pointer (some ⟨p, 0, none⟩)] w (PutTo p 1 ks w) := by
  obtain ⟨k, hk⟩ : ∃ k, ks[1]? = some k := ⟨_, List.getElem?_eq_getElem (by rw [h.len]; decide)⟩
  have he := h.few 1 _ k rfl hk rfl
  obtain ⟨_, hv⟩ := h.vrow 1 _ k rfl hk
  rw [he] at hv
  obtain ⟨A8, c8, ev⟩ := own_shape hv
  have c0 : w.cell? ⟨p, 2, none⟩ = some (.slice A8 0 c8) := by rw [cell_of_row w p 2 _ _ _ h.heap]; exact (flat_get ks 1 k hk).1.trans (by rw [ev]; rfl)
  have i1 : Old p w := ⟨(Array.getElem?_eq_some_iff.1 h.heap).1⟩
  have H2 := book_put h rfl hk (Chg.refl _ _) fun j it hj => by rw [he] at hj; simp at hj
  have HH := Lib.hid H2
  clear hv he hk h H2
  go_enter Tryz.func42, Tryz.ntmps42
  go_wp2
  refine wp_loop_rounds 1 ?_
  rw [rounds_succ]
  go_wp2
  exact bodyPost_ret (v := .tuple #[]) (by simp [results, Tryz.results42, go_sem]) rfl ⟨rfl, ⟨w, Chg.refl _ _⟩, rfl, HH.out⟩

theorem putTokens_any (p : Nat) (ks : List Kind) (w : World) (h : BookP w p ks (CD 2) (fun _ => True)) : Calls Tryz.prog 43 #[.pointer (some ⟨p, 0, none⟩)] w (PutTo p 2 ks w) := by
  obtain ⟨k, hk⟩ : ∃ k, ks[2]? = some k := ⟨_, List.getElem?_eq_getElem (by rw [h.len]; decide)⟩
  have he := h.few 2 _ k rfl hk rfl
  obtain ⟨_, hv⟩ := h.vrow 2 _ k rfl hk
  rw [he] at hv
  obtain ⟨A8, c8, ev⟩ := own_shape hv
  have c0 : w.cell? ⟨p, 4, none⟩ = some (.slice A8 0 c8) := by rw [cell_of_row w p 4 _ _ _ h.heap]; exact (flat_get ks 2 k hk).1.trans (by rw [ev]; rfl)
  have i1 : Old p w := ⟨(Array.getElem?_eq_some_iff.1 h.heap).1⟩
  have H2 := book_put h rfl hk (Chg.refl _ _) fun j it hj => by rw [he] at hj; simp at hj
  have HH := Lib.hid H2
  clear hv he hk h H2
  go_enter Tryz.func43, Tryz.ntmps43
  go_wp2
  refine wp_loop_rounds 1 ?_
  rw [rounds_succ]
  go_wp2
  exact bodyPost_ret (v := .tuple #[]) (by simp [results, Tryz.results43, go_sem]) rfl ⟨rfl, ⟨w, Chg.refl _ _⟩, rfl, HH.out⟩

theorem putSets_any (p : Nat) (ks : List Kind) (w : World) (h : BookP w p ks (CD 5) (fun _ => True)) : Calls Tryz.prog 46 #[.pointer (some ⟨p, 0, none⟩)] w (PutTo p 5 ks w) := by
  obtain ⟨k, hk⟩ : ∃ k, ks[5]? = some k := ⟨_, List.getElem?_eq_getElem (by rw [h.len]; decide)⟩
  have he := h.few 5 _ k rfl hk rfl
  obtain ⟨_, hv⟩ := h.vrow 5 _ k rfl hk
  rw [he] at hv
  obtain ⟨A8, c8, ev⟩ := own_shape hv
  have c0 : w.cell? ⟨p, 10, none⟩ = some (.slice A8 0 c8) := by rw [cell_of_row w p 10 _ _ _ h.heap]; exact (flat_get ks 5 k hk).1.trans (by rw [ev]; rfl)
  have i1 : Old p w := ⟨(Array.getElem?_eq_some_iff.1 h.heap).1⟩
  have H2 := book_put h rfl hk (Chg.refl _ _) fun j it hj => by rw [he] at hj; simp at hj
  have HH := Lib.hid H2
  clear hv he hk h H2
  go_enter Tryz.func46, Tryz.ntmps46
  go_wp2
  refine wp_loop_rounds 1 ?_
  rw [rounds_succ]
  go_wp2
  exact bodyPost_ret (v := .tuple #[]) (by simp [results, Tryz.results46, go_sem]) rfl ⟨rfl, ⟨w, Chg.refl _ _⟩, rfl, HH.out⟩

theorem putEvents_any (p : Nat) (ks : List Kind) (w : World) (h : BookP w p ks (CD 6) (fun _ => True)) : Calls Tryz.prog 47 #[.pointer (some ⟨p, 0, none⟩)] w (PutTo p 6 ks w) := by
  obtain ⟨k, hk⟩ : ∃ k, ks[6]? = some k := ⟨_, List.getElem?_eq_getElem (by rw [h.len]; decide)⟩
  have he := h.few 6 _ k rfl hk rfl
  obtain ⟨_, hv⟩ := h.vrow 6 _ k rfl hk
  rw [he] at hv
  obtain ⟨A8, c8, ev⟩ := own_shape hv
  have c0 : w.cell? ⟨p, 12, none⟩ = some (.slice A8 0 c8) := by rw [cell_of_row w p 12 _ _ _ h.heap]; exact (flat_get ks 6 k hk).1.trans (by rw [ev]; rfl)
  have i1 : Old p w := ⟨(Array.getElem?_eq_some_iff.1 h.heap).1⟩
  have H2 := book_put h rfl hk (Chg.refl _ _) fun j it hj => by rw [he] at hj; simp at hj
  have HH := Lib.hid H2
  clear hv he hk h H2
  go_enter Tryz.func47, Tryz.ntmps47
  go_wp2
  refine wp_loop_rounds 1 ?_
  rw [rounds_succ]
  go_wp2
  exact bodyPost_ret (v := .tuple #[]) (by simp [results, Tryz.results47, go_sem]) rfl ⟨rfl, ⟨w, Chg.refl _ _⟩, rfl, HH.out⟩

theorem putErrs_any (p : Nat) (ks : List Kind) (w : World) (h : BookP w p ks (CD 7) (fun _ => True)) : Calls Tryz.prog 48 #[.pointer (some ⟨p, 0, none⟩)] w (PutTo p 7 ks w) := by
  obtain ⟨k, hk⟩ : ∃ k, ks[7]? = some k := ⟨_, List.getElem?_eq_getElem (by rw [h.len]; decide)⟩
  have he := h.few 7 _ k rfl hk rfl
  obtain ⟨_, hv⟩ := h.vrow 7 _ k rfl hk
  rw [he] at hv
  obtain ⟨A8, c8, ev⟩ := own_shape hv
  have c0 : w.cell? ⟨p, 14, none⟩ = some (.slice A8 0 c8) := by rw [cell_of_row w p 14 _ _ _ h.heap]; exact (flat_get ks 7 k hk).1.trans (by rw [ev]; rfl)
  have i1 : Old p w := ⟨(Array.getElem?_eq_some_iff.1 h.heap).1⟩
  have H2 := book_put h rfl hk (Chg.refl _ _) fun j it hj => by rw [he] at hj; simp at hj
  have HH := Lib.hid H2
  clear hv he hk h H2
  go_enter Tryz.func48, Tryz.ntmps48
  go_wp2
  refine wp_loop_rounds 1 ?_
  rw [rounds_succ]
  go_wp2
  exact bodyPost_ret (v := .tuple #[]) (by simp [results, Tryz.results48, go_sem]) rfl ⟨rfl, ⟨w, Chg.refl _ _⟩, rfl, HH.out⟩

theorem putOuts_any (p : Nat) (ks : List Kind) (w : World) (h : BookP w p ks (CD 8) (fun _ => True)) : Calls Tryz.prog 49 #[.pointer (some ⟨p, 0, none⟩)] w (PutTo p 8 ks w) := by
  obtain ⟨k, hk⟩ : ∃ k, ks[8]? = some k := ⟨_, List.getElem?_eq_getElem (by rw [h.len]; decide)⟩
  have he := h.few 8 _ k rfl hk rfl
  obtain ⟨_, hv⟩ := h.vrow 8 _ k rfl hk
  rw [he] at hv
  obtain ⟨A8, c8, ev⟩ := own_shape hv
  have c0 : w.cell? ⟨p, 16, none⟩ = some (.slice A8 0 c8) := by rw [cell_of_row w p 16 _ _ _ h.heap]; exact (flat_get ks 8 k hk).1.trans (by rw [ev]; rfl)
  have i1 : Old p w := ⟨(Array.getElem?_eq_some_iff.1 h.heap).1⟩
  have H2 := book_put h rfl hk (Chg.refl _ _) fun j it hj => by rw [he] at hj; simp at hj
  have HH := Lib.hid H2
  clear hv he hk h H2
  go_enter Tryz.func49, Tryz.ntmps49
  go_wp2
  refine wp_loop_rounds 1 ?_
  rw [rounds_succ]
  go_wp2
  exact bodyPost_ret (v := .tuple #[]) (by simp [results, Tryz.results49, go_sem]) rfl ⟨rfl, ⟨w, Chg.refl _ _⟩, rfl, HH.out⟩

theorem putSteps_any (p : Nat) (ks : List Kind) (w : World) (h : BookP w p ks (CD 10) (fun _ => True)) : Calls Tryz.prog 51 #[.pointer (some ⟨p, 0, none⟩)] w (PutTo p 10 ks w) := by
  obtain ⟨k, hk⟩ : ∃ k, ks[10]? = some k := ⟨_, List.getElem?_eq_getElem (by rw [h.len]; decide)⟩
  have he := h.few 10 _ k rfl hk rfl
  obtain ⟨_, hv⟩ := h.vrow 10 _ k rfl hk
  rw [he] at hv
  obtain ⟨A8, c8, ev⟩ := own_shape hv
  have c0 : w.cell? ⟨p, 20, none⟩ = some (.slice A8 0 c8) := by rw [cell_of_row w p 20 _ _ _ h.heap]; exact (flat_get ks 10 k hk).1.trans (by rw [ev]; rfl)
  have i1 : Old p w := ⟨(Array.getElem?_eq_some_iff.1 h.heap).1⟩
  have H2 := book_put h rfl hk (Chg.refl _ _) fun j it hj => by rw [he] at hj; simp at hj
  have HH := Lib.hid H2
  clear hv he hk h H2
  go_enter Tryz.func51, Tryz.ntmps51
  go_wp2
  refine wp_loop_rounds 1 ?_
  rw [rounds_succ]
  go_wp2
  exact bodyPost_ret (v := .tuple #[]) (by simp [results, Tryz.results51, go_sem]) rfl ⟨rfl, ⟨w, Chg.refl _ _⟩, rfl, HH.out⟩

theorem putRows_any (p : Nat) (ks : List Kind) (w : World) (h : BookP w p ks (CD 11) (fun _ => True)) : Calls Tryz.prog 52 #[.pointer (some ⟨p, 0, none⟩)] w (PutTo p 11 ks w) := by
  obtain ⟨k, hk⟩ : ∃ k, ks[11]? = some k := ⟨_, List.getElem?_eq_getElem (by rw [h.len]; decide)⟩
  have he := h.few 11 _ k rfl hk rfl
  obtain ⟨_, hv⟩ := h.vrow 11 _ k rfl hk
  rw [he] at hv
  obtain ⟨A8, c8, ev⟩ := own_shape hv
  have c0 : w.cell? ⟨p, 22, none⟩ = some (.slice A8 0 c8) := by rw [cell_of_row w p 22 _ _ _ h.heap]; exact (flat_get ks 11 k hk).1.trans (by rw [ev]; rfl)
  have i1 : Old p w := ⟨(Array.getElem?_eq_some_iff.1 h.heap).1⟩
  have H2 := book_put h rfl hk (Chg.refl _ _) fun j it hj => by rw [he] at hj; simp at hj
  have HH := Lib.hid H2
  clear hv he hk h H2
  go_enter Tryz.func52, Tryz.ntmps52
  go_wp2
  refine wp_loop_rounds 1 ?_
  rw [rounds_succ]
  go_wp2
  exact bodyPost_ret (v := .tuple #[]) (by simp [results, Tryz.results52, go_sem]) rfl ⟨rfl, ⟨w, Chg.refl _ _⟩, rfl, HH.out⟩
end Go.Proofs.YteemkceceaabkaaGreat
