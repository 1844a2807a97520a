/- The book of lists: what is still as it was; what is marked. -/
import Derived.Test.YteemkceceaabkaaGreatBx
import Derived.Deep.RegionHeldLaw
namespace Go.Proofs.YteemkceceaabkaaGreat
open Go.RowKit Go.Ear
set_option maxHeartbeats 1000000
set_option maxRecDepth 40000

/-- The marks of list j of kind i, n of them. -/
def XM (i j n : Nat) : List Value := if i = 0 then marks mkInts j 0 n else if i = 3 then marks mkNotices j 0 n else if i = 4 then marks mkBytes j 0 n else if i = 9 then marks mkGrams j 0 n else []
theorem marks_goodBytes (j fr n : Nat) : goodBytes (marks mkBytes j fr n) := by
  induction n with
  | zero => exact ⟨[], rfl⟩
  | succ n ih =>
    obtain ⟨l, hl⟩ := ih
    refine ⟨l ++ [UInt8.ofNat ((((j : Int) * 31 + ((fr + n : Nat) : Int) * 7 + (j : Int) / 7) % 251).toNat)], ?_⟩
    rw [marks_succ, hl, bv, bv, List.map_append]
    congr 1
    simp only [mkBytes, List.map_cons, List.map_nil, List.cons.injEq, and_true, Value.int.injEq, true_and]
    have h0 := Int.emod_nonneg ((j : Int) * 31 + ((fr + n : Nat) : Int) * 7 + (j : Int) / 7) (show (251 : Int) ≠ 0 by decide)
    have h1 := Int.emod_lt_of_pos ((j : Int) * 31 + ((fr + n : Nat) : Int) * 7 + (j : Int) / 7) (show (0 : Int) < 251 by decide)
    generalize ((j : Int) * 31 + ((fr + n : Nat) : Int) * 7 + (j : Int) / 7) % 251 = x at *
    simp
    omega
theorem marks_goodInts (j fr n : Nat) : goodInts (marks mkInts j fr n) := by
  induction n with
  | zero => exact ⟨[], rfl⟩
  | succ n ih =>
    obtain ⟨l, hl⟩ := ih
    exact ⟨l ++ [-1000000 * (j : Int) - ((fr + n : Nat) : Int) - 7], by rw [marks_succ, hl, List.map_append]; rfl⟩
theorem marks_goodNotices (j fr n : Nat) : goodNotices (marks mkNotices j fr n) := by
  induction n with
  | zero => exact ⟨[], rfl⟩
  | succ n ih =>
    obtain ⟨l, hl⟩ := ih
    exact ⟨l ++ [(-1 - (j : Int), ((fr + n : Nat) : Int), 0)], by rw [marks_succ, hl, List.flatMap_append]; rfl⟩
theorem marks_goodGrams (j fr n : Nat) : goodGrams (marks mkGrams j fr n) := by
  induction n with
  | zero => exact ⟨[], rfl⟩
  | succ n ih =>
    obtain ⟨l, hl⟩ := ih
    exact ⟨l ++ [(-1 - (j : Int), ((fr + n : Nat) : Int), 0, none, 0, 0)], by rw [marks_succ, hl, List.flatMap_append]; rfl⟩

/-- The book, with C the cells of its lists; the lists of the kinds of own are owned. -/
structure BookP (w : World) (p : Nat) (ks : List Kind) (C : Nat → Nat → Kept → List Value) (own : Nat → Prop) : Prop where
  heap : w.heap[p]? = some (.cells (ks.flatMap fun k => [k.v, k.u]).toArray 53 (0, 0))
  len : ks.length = KT.length
  apart : ∀ x, bcnt p ks x ≤ 1
  vrow : ∀ (i : Nat) (t : KindT) (k : Kind), KT[i]? = some t → ks[i]? = some k → k.its.length ≤ 400 ∧ w.ownsRow 0 t.T 1 k.v k.its.length (k.its.map Kept.a)
  few : ∀ (i : Nat) (t : KindT) (k : Kind), KT[i]? = some t → ks[i]? = some k → t.e = 0 → k.its = []
  els : ∀ (i : Nat) (t : KindT) (k : Kind) (j : Nat) (it : Kept), KT[i]? = some t → ks[i]? = some k → k.its[j]? = some it → it.n ≤ 1000000000 ∧ (own i → w.ownsRow 0 t.e t.sz it.a it.n (C i j it)) ∧ SL w it.a it.n t.sz (C i j it)
def CD (d : Nat) (i j : Nat) (it : Kept) : List Value := if i < d then XM i j it.n else it.xs

theorem kt_few : ∀ (i : Nat) (t : KindT), KT[i]? = some t → t.e = 0 → t.good = noGood := by
  intro i t h he
  have hi : i < 12 := (List.getElem?_eq_some_iff.1 h).1
  rcases (show i = 0 ∨ i = 1 ∨ i = 2 ∨ i = 3 ∨ i = 4 ∨ i = 5 ∨ i = 6 ∨ i = 7 ∨ i = 8 ∨ i = 9 ∨ i = 10 ∨ i = 11 by omega) with e | e | e | e | e | e | e | e | e | e | e | e <;> subst e <;> (simp [KT] at h; subst h; first | rfl | exact absurd he (by decide))
theorem book_toP {w : World} {p : Nat} {ks : List Kind} (h : BookAt KT 53 w p ks) : BookP w p ks (CD 0) (fun _ => True) := by
  refine ⟨h.heap, h.len, h.apart, fun i t k ht hk => ?_, fun i t k ht hk he => ?_, fun i t k j it ht hk hj => ?_⟩
  · obtain ⟨h1, h2, _⟩ := h.ok i t k ht hk
    exact ⟨h1, h2⟩
  · obtain ⟨_, _, _, h4⟩ := h.ok i t k ht hk
    rcases hits : k.its with _ | ⟨it, r⟩
    · rfl
    · obtain ⟨_, hg, _⟩ := h4 it (by rw [hits]; exact List.mem_cons_self)
      rw [kt_few i t ht he] at hg
      exact hg.elim
  · obtain ⟨_, _, _, h4⟩ := h.ok i t k ht hk
    obtain ⟨a1, _, a3, _⟩ := h4 it (List.mem_of_getElem? hj)
    exact ⟨a1, fun _ => a3, SL.of_own a3⟩

theorem stillBytes_any (p : Nat) (ks : List Kind) (w : World) (h : BookAt KT 53 w p ks) : Calls Tryz.prog 33 #[.pointer (some ⟨p, 0, none⟩)] w (Gr (.bool true) w) := by
  obtain ⟨k, hk⟩ : ∃ k, ks[4]? = some k := ⟨_, List.getElem?_eq_getElem (by rw [h.len]; decide)⟩
  obtain ⟨h4, hv, hu, hit⟩ := h.ok 4 _ k rfl hk
  obtain ⟨m, hm⟩ : ∃ m, m = k.its.length := ⟨_, rfl⟩
  rw [← hm] at h4 hv hu
  obtain ⟨A8, c8, ev⟩ := own_shape hv
  obtain ⟨A9, c9, eu⟩ := own_shape hu
  have c0 : w.cell? ⟨p, 8, none⟩ = some (.slice A8 m c8) := by rw [cell_of_row w p 8 _ _ _ h.heap]; exact (flat_get ks 4 k hk).1.trans (by rw [ev])
  have c1 : w.cell? ⟨p, 9, none⟩ = some (.slice A9 m c9) := by rw [cell_of_row w p 9 _ _ _ h.heap]; exact (flat_get ks 4 k hk).2.trans (by rw [eu])
  have i1 : Old p w := ⟨(Array.getElem?_eq_some_iff.1 h.heap).1⟩
  rw [ev] at hv
  rw [eu] at hu
  have HM := Lib.hid hm
  clear hm ev eu hk h
  go_enter Tryz.func33, Tryz.ntmps33
  go_wp2
  go_loopw [3] (fun i wr => ∃ (q : Nat) (g : Grows w), q ≤ m ∧ i = .int .i64 q ∧ wr = g.w) (fun i _ => m - (intOf i).toNat)
  case atStart => exact ⟨0, ⟨w, Chg.refl _ _⟩, Nat.zero_le _, rfl, rfl⟩
  case round =>
    obtain ⟨q, g, hq, rfl, rfl⟩ := hrel
    by_cases hlt : q < m
    · obtain ⟨it, hj⟩ : ∃ it, k.its[q]? = some it := ⟨_, List.getElem?_eq_getElem (by have := HM.out; omega)⟩
      obtain ⟨hn, hg, ha, hb⟩ := hit it (List.mem_of_getElem? hj)
      obtain ⟨a, b, n, xs⟩ := it
      dsimp only at hn hg ha hb
      obtain ⟨Aa, ca, rfl⟩ := own_shape ha
      obtain ⟨Ab, cb, rfl⟩ := own_shape hb
      obtain ⟨g8, cap8, e8, _, l8⟩ := hv.form (by omega)
      cases e8
      obtain ⟨g9, cap9, e9, _, l9⟩ := hu.form (by omega)
      cases e9
      have i2 : Old g8 w := ⟨l8⟩
      have i3 : Old g9 w := ⟨l9⟩
      have d0 : w.cell? ⟨g8, q, none⟩ = some (.slice Aa n ca) := by rw [hv.cellAt q (by omega), List.getElem?_map, hj]; rfl
      have d1 : w.cell? ⟨g9, q, none⟩ = some (.slice Ab n cb) := by rw [hu.cellAt q (by omega), List.getElem?_map, hj]; rfl
      have hs := fun W (hW : Chg Noth w W) => sameBytes_any' Aa Ab ca cb n xs W hg ((SL.of_own ha).grow hW) ((SL.of_own hb).grow hW) (by omega)
      clear hj hit ha hb hg hv hu
      go_wp2
      refine wp_region_grows (by kernel_rfl) (by kernel_rfl) ?_
      repeat (go_big_quiet_step ((first | (go_at_call 104; exact grows_of (hs _ (by repeat (with_reducible first | exact Chg.refl _ _ | refine chg_m ?_ _ | refine chg_g ?_ _ | refine chg_alloc ?_ _ | refine chg_drew ?_ | refine chg_drewN ?_ _ | refine chg_set ?_ _ _ _)))))))
      refine wpQuiet_nil ?_
      rintro _ ⟨g2, rfl⟩
      go_wp2
      go_roundw
      case rel => exact ⟨q + 1, g.join g2, by omega, by go_num, rfl⟩
      case measure => simp [intOf]; omega
    · go_wp2
      go_ret
      exact gr_mk rfl (by repeat (with_reducible first | exact Chg.refl _ _ | refine chg_m ?_ _ | refine chg_g ?_ _ | refine chg_alloc ?_ _ | refine chg_drew ?_ | refine chg_drewN ?_ _ | refine chg_set ?_ _ _ _))

theorem markedBytes_any (A : Option Addr) (m c : Nat) (its : List (Value × Nat × List Value)) (w : World) (hm : m = its.length) (h : Lists w (.slice A m c) 1 its) (h4 : m ≤ 400) (hmk : ∀ (j : Nat) (it : Value × Nat × List Value), its[j]? = some it → it.2.1 ≤ 1500000000 ∧ it.2.2 = marks mkBytes j 0 it.2.1) :
    Calls Tryz.prog 69 #[.slice A m c] w (Gr (.bool true) w) := by
  obtain ⟨hv, hit⟩ := h
  rw [← hm] at hv
  rcases Nat.eq_zero_or_pos m with h0 | hp
  · clear hv hit hmk hm
    subst h0
    go_enter Tryz.func69, Tryz.ntmps69
    go_wp2
    refine wp_loop_rounds 1 ?_
    rw [rounds_succ]
    go_wp2
    go_ret
    exact gr_same rfl
  obtain ⟨b, off, rfl, hb, hc⟩ := sl_at hv hp
  have i1 : Old b w := ⟨hb⟩
  have HM := Lib.hid hm
  clear hm hv
  go_enter Tryz.func69, Tryz.ntmps69
  go_wp2
  go_loopw [3] (fun i wr => ∃ (q : Nat) (g : Grows w), q ≤ m ∧ i = .int .i64 q ∧ wr = g.w) (fun i _ => m - (intOf i).toNat)
  case atStart => exact ⟨0, ⟨w, Chg.refl _ _⟩, Nat.zero_le _, rfl, rfl⟩
  case round =>
    obtain ⟨q, g, hq, rfl, rfl⟩ := hrel
    by_cases hlt : q < m
    · obtain ⟨it, hj⟩ : ∃ it, its[q]? = some it := ⟨_, List.getElem?_eq_getElem (by have := HM.out; omega)⟩
      obtain ⟨hn, hx⟩ := hmk q it hj
      have ha := hit it (List.mem_of_getElem? hj)
      obtain ⟨a, n, xs⟩ := it
      dsimp only at hn hx ha
      subst hx
      obtain ⟨_, Aa, ca, rfl, _⟩ := id ha
      have d0 : w.cell? ⟨b, off + q, none⟩ = some (.slice Aa n ca) := hc q _ (by rw [List.getElem?_map, hj]; rfl)
      have hmark := fun W => markBytes_any q 0 n W (by omega) (by omega)
      have hs := fun Ab cb W (hW : Chg Noth w W) hB => sameBytes_any' Aa Ab ca cb n (marks mkBytes q 0 n) W (marks_goodBytes q 0 n) (ha.grow hW) hB (by omega)
      have jb : Old b g.w := inferInstance
      have hgc := g.h
      have d1 : g.w.cell? ⟨b, off + q, none⟩ = some (.slice Aa n ca) := by simp [go_sem, d0]
      have HA := Lib.hid ha
      generalize g.w = W1 at *
      clear hj hit ha hc d0
      go_wp2
      go_region_held_law (fun W' => W'.cell? ⟨b, off + q, none⟩ = some (.slice Aa n ca)) (simp [go_sem, *]) (first
        | (go_at_call 115; refine (hmark _).mono ?_; rintro e w1 ⟨Ab, cb, rfl, hob, g1, rfl⟩)
        | (go_at_call 104; refine (hs Ab cb _ ((show Chg Noth w W1 from hgc).trans (by repeat (with_reducible first | exact Chg.refl _ _ | refine chg_m ?_ _ | refine chg_g ?_ _ | refine chg_alloc ?_ _ | refine chg_drew ?_ | refine chg_drewN ?_ _ | refine chg_set ?_ _ _ _)) fun _ _ e => e) ((SL.of_own hob).grow (by repeat (with_reducible first | exact Chg.refl _ _ | refine chg_m ?_ _ | refine chg_g ?_ _ | refine chg_alloc ?_ _ | refine chg_drew ?_ | refine chg_drewN ?_ _ | refine chg_set ?_ _ _ _)))).mono ?_; rintro e w2 ⟨rfl, g2, rfl⟩))
      have hc2 : Chg Noth w (g1.join g2).w := hgc.trans ((chg_drew (Chg.refl Noth W1)).trans (g1.join g2).h fun _ _ e => e) fun _ _ e => e
      obtain ⟨g3, hg3⟩ := muts_ex hc2
      rw [hg3]
      clear hob
      go_wp2
      go_roundw
      case rel => exact ⟨q + 1, g3, by omega, by go_num, rfl⟩
      case measure => simp [intOf]; omega
    · go_wp2
      go_ret
      exact gr_mk rfl (by repeat (with_reducible first | exact Chg.refl _ _ | refine chg_m ?_ _ | refine chg_g ?_ _ | refine chg_alloc ?_ _ | refine chg_drew ?_ | refine chg_drewN ?_ _ | refine chg_set ?_ _ _ _))

theorem stillGrams_any (p : Nat) (ks : List Kind) (w : World) (h : BookAt KT 53 w p ks) : Calls Tryz.prog 38 #[.pointer (some ⟨p, 0, none⟩)] w (Gr (.bool true) w) := by
  obtain ⟨k, hk⟩ : ∃ k, ks[9]? = some k := ⟨_, List.getElem?_eq_getElem (by rw [h.len]; decide)⟩
  obtain ⟨h4, hv, hu, hit⟩ := h.ok 9 _ k rfl hk
  obtain ⟨m, hm⟩ : ∃ m, m = k.its.length := ⟨_, rfl⟩
  rw [← hm] at h4 hv hu
  obtain ⟨A8, c8, ev⟩ := own_shape hv
  obtain ⟨A9, c9, eu⟩ := own_shape hu
  have c0 : w.cell? ⟨p, 18, none⟩ = some (.slice A8 m c8) := by rw [cell_of_row w p 18 _ _ _ h.heap]; exact (flat_get ks 9 k hk).1.trans (by rw [ev])
  have c1 : w.cell? ⟨p, 19, none⟩ = some (.slice A9 m c9) := by rw [cell_of_row w p 19 _ _ _ h.heap]; exact (flat_get ks 9 k hk).2.trans (by rw [eu])
  have i1 : Old p w := ⟨(Array.getElem?_eq_some_iff.1 h.heap).1⟩
  rw [ev] at hv
  rw [eu] at hu
  have HM := Lib.hid hm
  clear hm ev eu hk h
  go_enter Tryz.func38, Tryz.ntmps38
  go_wp2
  go_loopw [3] (fun i wr => ∃ (q : Nat) (g : Grows w), q ≤ m ∧ i = .int .i64 q ∧ wr = g.w) (fun i _ => m - (intOf i).toNat)
  case atStart => exact ⟨0, ⟨w, Chg.refl _ _⟩, Nat.zero_le _, rfl, rfl⟩
  case round =>
    obtain ⟨q, g, hq, rfl, rfl⟩ := hrel
    by_cases hlt : q < m
    · obtain ⟨it, hj⟩ : ∃ it, k.its[q]? = some it := ⟨_, List.getElem?_eq_getElem (by have := HM.out; omega)⟩
      obtain ⟨hn, hg, ha, hb⟩ := hit it (List.mem_of_getElem? hj)
      obtain ⟨a, b, n, xs⟩ := it
      dsimp only at hn hg ha hb
      obtain ⟨Aa, ca, rfl⟩ := own_shape ha
      obtain ⟨Ab, cb, rfl⟩ := own_shape hb
      obtain ⟨g8, cap8, e8, _, l8⟩ := hv.form (by omega)
      cases e8
      obtain ⟨g9, cap9, e9, _, l9⟩ := hu.form (by omega)
      cases e9
      have i2 : Old g8 w := ⟨l8⟩
      have i3 : Old g9 w := ⟨l9⟩
      have d0 : w.cell? ⟨g8, q, none⟩ = some (.slice Aa n ca) := by rw [hv.cellAt q (by omega), List.getElem?_map, hj]; rfl
      have d1 : w.cell? ⟨g9, q, none⟩ = some (.slice Ab n cb) := by rw [hu.cellAt q (by omega), List.getElem?_map, hj]; rfl
      have hs := fun W (hW : Chg Noth w W) => sameGrams_any' Aa Ab ca cb n xs W hg ((SL.of_own ha).grow hW) ((SL.of_own hb).grow hW) (by omega)
      clear hj hit ha hb hg hv hu
      go_wp2
      refine wp_region_grows (by kernel_rfl) (by kernel_rfl) ?_
      repeat (go_big_quiet_step ((first | (go_at_call 108; exact grows_of (hs _ (by repeat (with_reducible first | exact Chg.refl _ _ | refine chg_m ?_ _ | refine chg_g ?_ _ | refine chg_alloc ?_ _ | refine chg_drew ?_ | refine chg_drewN ?_ _ | refine chg_set ?_ _ _ _)))))))
      refine wpQuiet_nil ?_
      rintro _ ⟨g2, rfl⟩
      go_wp2
      go_roundw
      case rel => exact ⟨q + 1, g.join g2, by omega, by go_num, rfl⟩
      case measure => simp [intOf]; omega
    · go_wp2
      go_ret
      exact gr_mk rfl (by repeat (with_reducible first | exact Chg.refl _ _ | refine chg_m ?_ _ | refine chg_g ?_ _ | refine chg_alloc ?_ _ | refine chg_drew ?_ | refine chg_drewN ?_ _ | refine chg_set ?_ _ _ _))

theorem markedGrams_any (A : Option Addr) (m c : Nat) (its : List (Value × Nat × List Value)) (w : World) (hm : m = its.length) (h : Lists w (.slice A m c) 4 its) (h4 : m ≤ 400) (hmk : ∀ (j : Nat) (it : Value × Nat × List Value), its[j]? = some it → it.2.1 ≤ 1500000000 ∧ it.2.2 = marks mkGrams j 0 it.2.1) :
    Calls Tryz.prog 74 #[.slice A m c] w (Gr (.bool true) w) := by
  obtain ⟨hv, hit⟩ := h
  rw [← hm] at hv
  rcases Nat.eq_zero_or_pos m with h0 | hp
  · clear hv hit hmk hm
    subst h0
    go_enter Tryz.func74, Tryz.ntmps74
    go_wp2
    refine wp_loop_rounds 1 ?_
    rw [rounds_succ]
    go_wp2
    go_ret
    exact gr_same rfl
  obtain ⟨b, off, rfl, hb, hc⟩ := sl_at hv hp
  have i1 : Old b w := ⟨hb⟩
  have HM := Lib.hid hm
  clear hm hv
  go_enter Tryz.func74, Tryz.ntmps74
  go_wp2
  go_loopw [3] (fun i wr => ∃ (q : Nat) (g : Grows w), q ≤ m ∧ i = .int .i64 q ∧ wr = g.w) (fun i _ => m - (intOf i).toNat)
  case atStart => exact ⟨0, ⟨w, Chg.refl _ _⟩, Nat.zero_le _, rfl, rfl⟩
  case round =>
    obtain ⟨q, g, hq, rfl, rfl⟩ := hrel
    by_cases hlt : q < m
    · obtain ⟨it, hj⟩ : ∃ it, its[q]? = some it := ⟨_, List.getElem?_eq_getElem (by have := HM.out; omega)⟩
      obtain ⟨hn, hx⟩ := hmk q it hj
      have ha := hit it (List.mem_of_getElem? hj)
      obtain ⟨a, n, xs⟩ := it
      dsimp only at hn hx ha
      subst hx
      obtain ⟨_, Aa, ca, rfl, _⟩ := id ha
      have d0 : w.cell? ⟨b, off + q, none⟩ = some (.slice Aa n ca) := hc q _ (by rw [List.getElem?_map, hj]; rfl)
      have hmark := fun W => markGrams_any q 0 n W (by omega) (by omega)
      have hs := fun Ab cb W (hW : Chg Noth w W) hB => sameGrams_any' Aa Ab ca cb n (marks mkGrams q 0 n) W (marks_goodGrams q 0 n) (ha.grow hW) hB (by omega)
      have jb : Old b g.w := inferInstance
      have hgc := g.h
      have d1 : g.w.cell? ⟨b, off + q, none⟩ = some (.slice Aa n ca) := by simp [go_sem, d0]
      have HA := Lib.hid ha
      generalize g.w = W1 at *
      clear hj hit ha hc d0
      go_wp2
      go_region_held_law (fun W' => W'.cell? ⟨b, off + q, none⟩ = some (.slice Aa n ca)) (simp [go_sem, *]) (first
        | (go_at_call 120; refine (hmark _).mono ?_; rintro e w1 ⟨Ab, cb, rfl, hob, g1, rfl⟩)
        | (go_at_call 108; refine (hs Ab cb _ ((show Chg Noth w W1 from hgc).trans (by repeat (with_reducible first | exact Chg.refl _ _ | refine chg_m ?_ _ | refine chg_g ?_ _ | refine chg_alloc ?_ _ | refine chg_drew ?_ | refine chg_drewN ?_ _ | refine chg_set ?_ _ _ _)) fun _ _ e => e) ((SL.of_own hob).grow (by repeat (with_reducible first | exact Chg.refl _ _ | refine chg_m ?_ _ | refine chg_g ?_ _ | refine chg_alloc ?_ _ | refine chg_drew ?_ | refine chg_drewN ?_ _ | refine chg_set ?_ _ _ _)))).mono ?_; rintro e w2 ⟨rfl, g2, rfl⟩))
      have hc2 : Chg Noth w (g1.join g2).w := hgc.trans ((chg_drew (Chg.refl Noth W1)).trans (g1.join g2).h fun _ _ e => e) fun _ _ e => e
      obtain ⟨g3, hg3⟩ := muts_ex hc2
      rw [hg3]
      clear hob
      go_wp2
      go_roundw
      case rel => exact ⟨q + 1, g3, by omega, by go_num, rfl⟩
      case measure => simp [intOf]; omega
    · go_wp2
      go_ret
      exact gr_mk rfl (by repeat (with_reducible first | exact Chg.refl _ _ | refine chg_m ?_ _ | refine chg_g ?_ _ | refine chg_alloc ?_ _ | refine chg_drew ?_ | refine chg_drewN ?_ _ | refine chg_set ?_ _ _ _))

theorem stillInts_any (p : Nat) (ks : List Kind) (w : World) (h : BookAt KT 53 w p ks) : Calls Tryz.prog 29 #[.pointer (some ⟨p, 0, none⟩)] w (Gr (.bool true) w) := by
  obtain ⟨k, hk⟩ : ∃ k, ks[0]? = some k := ⟨_, List.getElem?_eq_getElem (by rw [h.len]; decide)⟩
  obtain ⟨h4, hv, hu, hit⟩ := h.ok 0 _ k rfl hk
  obtain ⟨m, hm⟩ : ∃ m, m = k.its.length := ⟨_, rfl⟩
  rw [← hm] at h4 hv hu
  obtain ⟨A8, c8, ev⟩ := own_shape hv
  obtain ⟨A9, c9, eu⟩ := own_shape hu
  have c0 : w.cell? ⟨p, 0, none⟩ = some (.slice A8 m c8) := by rw [cell_of_row w p 0 _ _ _ h.heap]; exact (flat_get ks 0 k hk).1.trans (by rw [ev])
  have c1 : w.cell? ⟨p, 1, none⟩ = some (.slice A9 m c9) := by rw [cell_of_row w p 1 _ _ _ h.heap]; exact (flat_get ks 0 k hk).2.trans (by rw [eu])
  have i1 : Old p w := ⟨(Array.getElem?_eq_some_iff.1 h.heap).1⟩
  rw [ev] at hv
  rw [eu] at hu
  have HM := Lib.hid hm
  clear hm ev eu hk h
  go_enter Tryz.func29, Tryz.ntmps29
  go_wp2
  go_loopw [3] (fun i wr => ∃ (q : Nat) (g : Grows w), q ≤ m ∧ i = .int .i64 q ∧ wr = g.w) (fun i _ => m - (intOf i).toNat)
  case atStart => exact ⟨0, ⟨w, Chg.refl _ _⟩, Nat.zero_le _, rfl, rfl⟩
  case round =>
    obtain ⟨q, g, hq, rfl, rfl⟩ := hrel
    by_cases hlt : q < m
    · obtain ⟨it, hj⟩ : ∃ it, k.its[q]? = some it := ⟨_, List.getElem?_eq_getElem (by have := HM.out; omega)⟩
      obtain ⟨hn, hg, ha, hb⟩ := hit it (List.mem_of_getElem? hj)
      obtain ⟨a, b, n, xs⟩ := it
      dsimp only at hn hg ha hb
      obtain ⟨Aa, ca, rfl⟩ := own_shape ha
      obtain ⟨Ab, cb, rfl⟩ := own_shape hb
      obtain ⟨g8, cap8, e8, _, l8⟩ := hv.form (by omega)
      cases e8
      obtain ⟨g9, cap9, e9, _, l9⟩ := hu.form (by omega)
      cases e9
      have i2 : Old g8 w := ⟨l8⟩
      have i3 : Old g9 w := ⟨l9⟩
      have d0 : w.cell? ⟨g8, q, none⟩ = some (.slice Aa n ca) := by rw [hv.cellAt q (by omega), List.getElem?_map, hj]; rfl
      have d1 : w.cell? ⟨g9, q, none⟩ = some (.slice Ab n cb) := by rw [hu.cellAt q (by omega), List.getElem?_map, hj]; rfl
      have hs := fun W (hW : Chg Noth w W) => sameInts_any' Aa Ab ca cb n xs W hg ((SL.of_own ha).grow hW) ((SL.of_own hb).grow hW) (by omega)
      clear hj hit ha hb hg hv hu
      go_wp2
      refine wp_region_grows (by kernel_rfl) (by kernel_rfl) ?_
      repeat (go_big_quiet_step ((first | (go_at_call 13; exact grows_of (hs _ (by repeat (with_reducible first | exact Chg.refl _ _ | refine chg_m ?_ _ | refine chg_g ?_ _ | refine chg_alloc ?_ _ | refine chg_drew ?_ | refine chg_drewN ?_ _ | refine chg_set ?_ _ _ _)))))))
      refine wpQuiet_nil ?_
      rintro _ ⟨g2, rfl⟩
      go_wp2
      go_roundw
      case rel => exact ⟨q + 1, g.join g2, by omega, by go_num, rfl⟩
      case measure => simp [intOf]; omega
    · go_wp2
      go_ret
      exact gr_mk rfl (by repeat (with_reducible first | exact Chg.refl _ _ | refine chg_m ?_ _ | refine chg_g ?_ _ | refine chg_alloc ?_ _ | refine chg_drew ?_ | refine chg_drewN ?_ _ | refine chg_set ?_ _ _ _))

theorem markedInts_any (A : Option Addr) (m c : Nat) (its : List (Value × Nat × List Value)) (w : World) (hm : m = its.length) (h : Lists w (.slice A m c) 1 its) (h4 : m ≤ 400) (hmk : ∀ (j : Nat) (it : Value × Nat × List Value), its[j]? = some it → it.2.1 ≤ 1500000000 ∧ it.2.2 = marks mkInts j 0 it.2.1) :
    Calls Tryz.prog 65 #[.slice A m c] w (Gr (.bool true) w) := by
  obtain ⟨hv, hit⟩ := h
  rw [← hm] at hv
  rcases Nat.eq_zero_or_pos m with h0 | hp
  · clear hv hit hmk hm
    subst h0
    go_enter Tryz.func65, Tryz.ntmps65
    go_wp2
    refine wp_loop_rounds 1 ?_
    rw [rounds_succ]
    go_wp2
    go_ret
    exact gr_same rfl
  obtain ⟨b, off, rfl, hb, hc⟩ := sl_at hv hp
  have i1 : Old b w := ⟨hb⟩
  have HM := Lib.hid hm
  clear hm hv
  go_enter Tryz.func65, Tryz.ntmps65
  go_wp2
  go_loopw [3] (fun i wr => ∃ (q : Nat) (g : Grows w), q ≤ m ∧ i = .int .i64 q ∧ wr = g.w) (fun i _ => m - (intOf i).toNat)
  case atStart => exact ⟨0, ⟨w, Chg.refl _ _⟩, Nat.zero_le _, rfl, rfl⟩
  case round =>
    obtain ⟨q, g, hq, rfl, rfl⟩ := hrel
    by_cases hlt : q < m
    · obtain ⟨it, hj⟩ : ∃ it, its[q]? = some it := ⟨_, List.getElem?_eq_getElem (by have := HM.out; omega)⟩
      obtain ⟨hn, hx⟩ := hmk q it hj
      have ha := hit it (List.mem_of_getElem? hj)
      obtain ⟨a, n, xs⟩ := it
      dsimp only at hn hx ha
      subst hx
      obtain ⟨_, Aa, ca, rfl, _⟩ := id ha
      have d0 : w.cell? ⟨b, off + q, none⟩ = some (.slice Aa n ca) := hc q _ (by rw [List.getElem?_map, hj]; rfl)
      have hmark := fun W => markInts_any q 0 n W (by omega) (by omega)
      have hs := fun Ab cb W (hW : Chg Noth w W) hB => sameInts_any' Aa Ab ca cb n (marks mkInts q 0 n) W (marks_goodInts q 0 n) (ha.grow hW) hB (by omega)
      have jb : Old b g.w := inferInstance
      have hgc := g.h
      have d1 : g.w.cell? ⟨b, off + q, none⟩ = some (.slice Aa n ca) := by simp [go_sem, d0]
      have HA := Lib.hid ha
      generalize g.w = W1 at *
      clear hj hit ha hc d0
      go_wp2
      go_region_held_law (fun W' => W'.cell? ⟨b, off + q, none⟩ = some (.slice Aa n ca)) (simp [go_sem, *]) (first
        | (go_at_call 111; refine (hmark _).mono ?_; rintro e w1 ⟨Ab, cb, rfl, hob, g1, rfl⟩)
        | (go_at_call 13; refine (hs Ab cb _ ((show Chg Noth w W1 from hgc).trans (by repeat (with_reducible first | exact Chg.refl _ _ | refine chg_m ?_ _ | refine chg_g ?_ _ | refine chg_alloc ?_ _ | refine chg_drew ?_ | refine chg_drewN ?_ _ | refine chg_set ?_ _ _ _)) fun _ _ e => e) ((SL.of_own hob).grow (by repeat (with_reducible first | exact Chg.refl _ _ | refine chg_m ?_ _ | refine chg_g ?_ _ | refine chg_alloc ?_ _ | refine chg_drew ?_ | refine chg_drewN ?_ _ | refine chg_set ?_ _ _ _)))).mono ?_; rintro e w2 ⟨rfl, g2, rfl⟩))
      have hc2 : Chg Noth w (g1.join g2).w := hgc.trans ((chg_drew (Chg.refl Noth W1)).trans (g1.join g2).h fun _ _ e => e) fun _ _ e => e
      obtain ⟨g3, hg3⟩ := muts_ex hc2
      rw [hg3]
      clear hob
      go_wp2
      go_roundw
      case rel => exact ⟨q + 1, g3, by omega, by go_num, rfl⟩
      case measure => simp [intOf]; omega
    · go_wp2
      go_ret
      exact gr_mk rfl (by repeat (with_reducible first | exact Chg.refl _ _ | refine chg_m ?_ _ | refine chg_g ?_ _ | refine chg_alloc ?_ _ | refine chg_drew ?_ | refine chg_drewN ?_ _ | refine chg_set ?_ _ _ _))

theorem stillNotices_any (p : Nat) (ks : List Kind) (w : World) (h : BookAt KT 53 w p ks) : Calls Tryz.prog 32 #[.pointer (some ⟨p, 0, none⟩)] w (Gr (.bool true) w) := by
  obtain ⟨k, hk⟩ : ∃ k, ks[3]? = some k := ⟨_, List.getElem?_eq_getElem (by rw [h.len]; decide)⟩
  obtain ⟨h4, hv, hu, hit⟩ := h.ok 3 _ k rfl hk
  obtain ⟨m, hm⟩ : ∃ m, m = k.its.length := ⟨_, rfl⟩
  rw [← hm] at h4 hv hu
  obtain ⟨A8, c8, ev⟩ := own_shape hv
  obtain ⟨A9, c9, eu⟩ := own_shape hu
  have c0 : w.cell? ⟨p, 6, none⟩ = some (.slice A8 m c8) := by rw [cell_of_row w p 6 _ _ _ h.heap]; exact (flat_get ks 3 k hk).1.trans (by rw [ev])
  have c1 : w.cell? ⟨p, 7, none⟩ = some (.slice A9 m c9) := by rw [cell_of_row w p 7 _ _ _ h.heap]; exact (flat_get ks 3 k hk).2.trans (by rw [eu])
  have i1 : Old p w := ⟨(Array.getElem?_eq_some_iff.1 h.heap).1⟩
  rw [ev] at hv
  rw [eu] at hu
  have HM := Lib.hid hm
  clear hm ev eu hk h
  go_enter Tryz.func32, Tryz.ntmps32
  go_wp2
  go_loopw [3] (fun i wr => ∃ (q : Nat) (g : Grows w), q ≤ m ∧ i = .int .i64 q ∧ wr = g.w) (fun i _ => m - (intOf i).toNat)
  case atStart => exact ⟨0, ⟨w, Chg.refl _ _⟩, Nat.zero_le _, rfl, rfl⟩
  case round =>
    obtain ⟨q, g, hq, rfl, rfl⟩ := hrel
    by_cases hlt : q < m
    · obtain ⟨it, hj⟩ : ∃ it, k.its[q]? = some it := ⟨_, List.getElem?_eq_getElem (by have := HM.out; omega)⟩
      obtain ⟨hn, hg, ha, hb⟩ := hit it (List.mem_of_getElem? hj)
      obtain ⟨a, b, n, xs⟩ := it
      dsimp only at hn hg ha hb
      obtain ⟨Aa, ca, rfl⟩ := own_shape ha
      obtain ⟨Ab, cb, rfl⟩ := own_shape hb
      obtain ⟨g8, cap8, e8, _, l8⟩ := hv.form (by omega)
      cases e8
      obtain ⟨g9, cap9, e9, _, l9⟩ := hu.form (by omega)
      cases e9
      have i2 : Old g8 w := ⟨l8⟩
      have i3 : Old g9 w := ⟨l9⟩
      have d0 : w.cell? ⟨g8, q, none⟩ = some (.slice Aa n ca) := by rw [hv.cellAt q (by omega), List.getElem?_map, hj]; rfl
      have d1 : w.cell? ⟨g9, q, none⟩ = some (.slice Ab n cb) := by rw [hu.cellAt q (by omega), List.getElem?_map, hj]; rfl
      have hs := fun W (hW : Chg Noth w W) => sameNotices_any' Aa Ab ca cb n xs W hg ((SL.of_own ha).grow hW) ((SL.of_own hb).grow hW) (by omega)
      clear hj hit ha hb hg hv hu
      go_wp2
      refine wp_region_grows (by kernel_rfl) (by kernel_rfl) ?_
      repeat (go_big_quiet_step ((first | (go_at_call 14; exact grows_of (hs _ (by repeat (with_reducible first | exact Chg.refl _ _ | refine chg_m ?_ _ | refine chg_g ?_ _ | refine chg_alloc ?_ _ | refine chg_drew ?_ | refine chg_drewN ?_ _ | refine chg_set ?_ _ _ _)))))))
      refine wpQuiet_nil ?_
      rintro _ ⟨g2, rfl⟩
      go_wp2
      go_roundw
      case rel => exact ⟨q + 1, g.join g2, by omega, by go_num, rfl⟩
      case measure => simp [intOf]; omega
    · go_wp2
      go_ret
      exact gr_mk rfl (by repeat (with_reducible first | exact Chg.refl _ _ | refine chg_m ?_ _ | refine chg_g ?_ _ | refine chg_alloc ?_ _ | refine chg_drew ?_ | refine chg_drewN ?_ _ | refine chg_set ?_ _ _ _))

theorem markedNotices_any (A : Option Addr) (m c : Nat) (its : List (Value × Nat × List Value)) (w : World) (hm : m = its.length) (h : Lists w (.slice A m c) 3 its) (h4 : m ≤ 400) (hmk : ∀ (j : Nat) (it : Value × Nat × List Value), its[j]? = some it → it.2.1 ≤ 1500000000 ∧ it.2.2 = marks mkNotices j 0 it.2.1) :
    Calls Tryz.prog 68 #[.slice A m c] w (Gr (.bool true) w) := by
  obtain ⟨hv, hit⟩ := h
  rw [← hm] at hv
  rcases Nat.eq_zero_or_pos m with h0 | hp
  · clear hv hit hmk hm
    subst h0
    go_enter Tryz.func68, Tryz.ntmps68
    go_wp2
    refine wp_loop_rounds 1 ?_
    rw [rounds_succ]
    go_wp2
    go_ret
    exact gr_same rfl
  obtain ⟨b, off, rfl, hb, hc⟩ := sl_at hv hp
  have i1 : Old b w := ⟨hb⟩
  have HM := Lib.hid hm
  clear hm hv
  go_enter Tryz.func68, Tryz.ntmps68
  go_wp2
  go_loopw [3] (fun i wr => ∃ (q : Nat) (g : Grows w), q ≤ m ∧ i = .int .i64 q ∧ wr = g.w) (fun i _ => m - (intOf i).toNat)
  case atStart => exact ⟨0, ⟨w, Chg.refl _ _⟩, Nat.zero_le _, rfl, rfl⟩
  case round =>
    obtain ⟨q, g, hq, rfl, rfl⟩ := hrel
    by_cases hlt : q < m
    · obtain ⟨it, hj⟩ : ∃ it, its[q]? = some it := ⟨_, List.getElem?_eq_getElem (by have := HM.out; omega)⟩
      obtain ⟨hn, hx⟩ := hmk q it hj
      have ha := hit it (List.mem_of_getElem? hj)
      obtain ⟨a, n, xs⟩ := it
      dsimp only at hn hx ha
      subst hx
      obtain ⟨_, Aa, ca, rfl, _⟩ := id ha
      have d0 : w.cell? ⟨b, off + q, none⟩ = some (.slice Aa n ca) := hc q _ (by rw [List.getElem?_map, hj]; rfl)
      have hmark := fun W => markNotices_any q 0 n W (by omega) (by omega)
      have hs := fun Ab cb W (hW : Chg Noth w W) hB => sameNotices_any' Aa Ab ca cb n (marks mkNotices q 0 n) W (marks_goodNotices q 0 n) (ha.grow hW) hB (by omega)
      have jb : Old b g.w := inferInstance
      have hgc := g.h
      have d1 : g.w.cell? ⟨b, off + q, none⟩ = some (.slice Aa n ca) := by simp [go_sem, d0]
      have HA := Lib.hid ha
      generalize g.w = W1 at *
      clear hj hit ha hc d0
      go_wp2
      go_region_held_law (fun W' => W'.cell? ⟨b, off + q, none⟩ = some (.slice Aa n ca)) (simp [go_sem, *]) (first
        | (go_at_call 114; refine (hmark _).mono ?_; rintro e w1 ⟨Ab, cb, rfl, hob, g1, rfl⟩)
        | (go_at_call 14; refine (hs Ab cb _ ((show Chg Noth w W1 from hgc).trans (by repeat (with_reducible first | exact Chg.refl _ _ | refine chg_m ?_ _ | refine chg_g ?_ _ | refine chg_alloc ?_ _ | refine chg_drew ?_ | refine chg_drewN ?_ _ | refine chg_set ?_ _ _ _)) fun _ _ e => e) ((SL.of_own hob).grow (by repeat (with_reducible first | exact Chg.refl _ _ | refine chg_m ?_ _ | refine chg_g ?_ _ | refine chg_alloc ?_ _ | refine chg_drew ?_ | refine chg_drewN ?_ _ | refine chg_set ?_ _ _ _)))).mono ?_; rintro e w2 ⟨rfl, g2, rfl⟩))
      have hc2 : Chg Noth w (g1.join g2).w := hgc.trans ((chg_drew (Chg.refl Noth W1)).trans (g1.join g2).h fun _ _ e => e) fun _ _ e => e
      obtain ⟨g3, hg3⟩ := muts_ex hc2
      rw [hg3]
      clear hob
      go_wp2
      go_roundw
      case rel => exact ⟨q + 1, g3, by omega, by go_num, rfl⟩
      case measure => simp [intOf]; omega
    · go_wp2
      go_ret
      exact gr_mk rfl (by repeat (with_reducible first | exact Chg.refl _ _ | refine chg_m ?_ _ | refine chg_g ?_ _ | refine chg_alloc ?_ _ | refine chg_drew ?_ | refine chg_drewN ?_ _ | refine chg_set ?_ _ _ _))

theorem stillChars_any (p : Nat) (ks : List Kind) (w : World) (h : BookAt KT 53 w p ks) : Calls Tryz.prog 30 #[.pointer (some ⟨p, 0, none⟩)] w (Gr (.bool true) w) := by
  obtain ⟨k, hk⟩ : ∃ k, ks[1]? = some k := ⟨_, List.getElem?_eq_getElem (by rw [h.len]; decide)⟩
  have hP := book_toP h
  have he := hP.few 1 _ k rfl hk rfl
  obtain ⟨_, hv⟩ := hP.vrow 1 _ k rfl hk
  rw [he] at hv
  obtain ⟨A8, c8, ev⟩ := own_shape hv
  have c0 : w.cell? ⟨p, 2, none⟩ = some (.slice A8 0 c8) := by rw [cell_of_row w p 2 _ _ _ h.heap]; exact (flat_get ks 1 k hk).1.trans (by rw [ev]; rfl)
  have i1 : Old p w := ⟨(Array.getElem?_eq_some_iff.1 h.heap).1⟩
  clear hv he hP hk h
  go_enter Tryz.func30, Tryz.ntmps30
  go_wp2
  refine wp_loop_rounds 1 ?_
  rw [rounds_succ]
  go_wp2
  go_ret
  exact gr_same rfl

theorem markedChars_any (A : Option Addr) (c : Nat) (w : World) : Calls Tryz.prog 66 #[.slice A 0 c] w (Gr (.bool true) w) := by
  go_enter Tryz.func66, Tryz.ntmps66
  go_wp2
  refine wp_loop_rounds 1 ?_
  rw [rounds_succ]
  go_wp2
  go_ret
  exact gr_same rfl

theorem stillTokens_any (p : Nat) (ks : List Kind) (w : World) (h : BookAt KT 53 w p ks) : Calls Tryz.prog 31 #[.pointer (some ⟨p, 0, none⟩)] w (Gr (.bool true) w) := by
  obtain ⟨k, hk⟩ : ∃ k, ks[2]? = some k := ⟨_, List.getElem?_eq_getElem (by rw [h.len]; decide)⟩
  have hP := book_toP h
  have he := hP.few 2 _ k rfl hk rfl
  obtain ⟨_, hv⟩ := hP.vrow 2 _ k rfl hk
  rw [he] at hv
  obtain ⟨A8, c8, ev⟩ := own_shape hv
  have c0 : w.cell? ⟨p, 4, none⟩ = some (.slice A8 0 c8) := by rw [cell_of_row w p 4 _ _ _ h.heap]; exact (flat_get ks 2 k hk).1.trans (by rw [ev]; rfl)
  have i1 : Old p w := ⟨(Array.getElem?_eq_some_iff.1 h.heap).1⟩
  clear hv he hP hk h
  go_enter Tryz.func31, Tryz.ntmps31
  go_wp2
  refine wp_loop_rounds 1 ?_
  rw [rounds_succ]
  go_wp2
  go_ret
  exact gr_same rfl

theorem markedTokens_any (A : Option Addr) (c : Nat) (w : World) : Calls Tryz.prog 67 #[.slice A 0 c] w (Gr (.bool true) w) := by
  go_enter Tryz.func67, Tryz.ntmps67
  go_wp2
  refine wp_loop_rounds 1 ?_
  rw [rounds_succ]
  go_wp2
  go_ret
  exact gr_same rfl

theorem stillSets_any (p : Nat) (ks : List Kind) (w : World) (h : BookAt KT 53 w p ks) : Calls Tryz.prog 34 #[.pointer (some ⟨p, 0, none⟩)] w (Gr (.bool true) w) := by
  obtain ⟨k, hk⟩ : ∃ k, ks[5]? = some k := ⟨_, List.getElem?_eq_getElem (by rw [h.len]; decide)⟩
  have hP := book_toP h
  have he := hP.few 5 _ k rfl hk rfl
  obtain ⟨_, hv⟩ := hP.vrow 5 _ k rfl hk
  rw [he] at hv
  obtain ⟨A8, c8, ev⟩ := own_shape hv
  have c0 : w.cell? ⟨p, 10, none⟩ = some (.slice A8 0 c8) := by rw [cell_of_row w p 10 _ _ _ h.heap]; exact (flat_get ks 5 k hk).1.trans (by rw [ev]; rfl)
  have i1 : Old p w := ⟨(Array.getElem?_eq_some_iff.1 h.heap).1⟩
  clear hv he hP hk h
  go_enter Tryz.func34, Tryz.ntmps34
  go_wp2
  refine wp_loop_rounds 1 ?_
  rw [rounds_succ]
  go_wp2
  go_ret
  exact gr_same rfl

theorem markedSets_any (A : Option Addr) (c : Nat) (w : World) : Calls Tryz.prog 70 #[.slice A 0 c] w (Gr (.bool true) w) := by
  go_enter Tryz.func70, Tryz.ntmps70
  go_wp2
  refine wp_loop_rounds 1 ?_
  rw [rounds_succ]
  go_wp2
  go_ret
  exact gr_same rfl

theorem stillEvents_any (p : Nat) (ks : List Kind) (w : World) (h : BookAt KT 53 w p ks) : Calls Tryz.prog 35 #[.pointer (some ⟨p, 0, none⟩)] w (Gr (.bool true) w) := by
  obtain ⟨k, hk⟩ : ∃ k, ks[6]? = some k := ⟨_, List.getElem?_eq_getElem (by rw [h.len]; decide)⟩
  have hP := book_toP h
  have he := hP.few 6 _ k rfl hk rfl
  obtain ⟨_, hv⟩ := hP.vrow 6 _ k rfl hk
  rw [he] at hv
  obtain ⟨A8, c8, ev⟩ := own_shape hv
  have c0 : w.cell? ⟨p, 12, none⟩ = some (.slice A8 0 c8) := by rw [cell_of_row w p 12 _ _ _ h.heap]; exact (flat_get ks 6 k hk).1.trans (by rw [ev]; rfl)
  have i1 : Old p w := ⟨(Array.getElem?_eq_some_iff.1 h.heap).1⟩
  clear hv he hP hk h
  go_enter Tryz.func35, Tryz.ntmps35
  go_wp2
  refine wp_loop_rounds 1 ?_
  rw [rounds_succ]
  go_wp2
  go_ret
  exact gr_same rfl

theorem markedEvents_any (A : Option Addr) (c : Nat) (w : World) : Calls Tryz.prog 71 #[.slice A 0 c] w (Gr (.bool true) w) := by
  go_enter Tryz.func71, Tryz.ntmps71
  go_wp2
  refine wp_loop_rounds 1 ?_
  rw [rounds_succ]
  go_wp2
  go_ret
  exact gr_same rfl

theorem stillErrs_any (p : Nat) (ks : List Kind) (w : World) (h : BookAt KT 53 w p ks) : Calls Tryz.prog 36 #[.pointer (some ⟨p, 0, none⟩)] w (Gr (.bool true) w) := by
  obtain ⟨k, hk⟩ : ∃ k, ks[7]? = some k := ⟨_, List.getElem?_eq_getElem (by rw [h.len]; decide)⟩
  have hP := book_toP h
  have he := hP.few 7 _ k rfl hk rfl
  obtain ⟨_, hv⟩ := hP.vrow 7 _ k rfl hk
  rw [he] at hv
  obtain ⟨A8, c8, ev⟩ := own_shape hv
  have c0 : w.cell? ⟨p, 14, none⟩ = some (.slice A8 0 c8) := by rw [cell_of_row w p 14 _ _ _ h.heap]; exact (flat_get ks 7 k hk).1.trans (by rw [ev]; rfl)
  have i1 : Old p w := ⟨(Array.getElem?_eq_some_iff.1 h.heap).1⟩
  clear hv he hP hk h
  go_enter Tryz.func36, Tryz.ntmps36
  go_wp2
  refine wp_loop_rounds 1 ?_
  rw [rounds_succ]
  go_wp2
  go_ret
  exact gr_same rfl

theorem markedErrs_any (A : Option Addr) (c : Nat) (w : World) : Calls Tryz.prog 72 #[.slice A 0 c] w (Gr (.bool true) w) := by
  go_enter Tryz.func72, Tryz.ntmps72
  go_wp2
  refine wp_loop_rounds 1 ?_
  rw [rounds_succ]
  go_wp2
  go_ret
  exact gr_same rfl

theorem stillOuts_any (p : Nat) (ks : List Kind) (w : World) (h : BookAt KT 53 w p ks) : Calls Tryz.prog 37 #[.pointer (some ⟨p, 0, none⟩)] w (Gr (.bool true) w) := by
  obtain ⟨k, hk⟩ : ∃ k, ks[8]? = some k := ⟨_, List.getElem?_eq_getElem (by rw [h.len]; decide)⟩
  have hP := book_toP h
  have he := hP.few 8 _ k rfl hk rfl
  obtain ⟨_, hv⟩ := hP.vrow 8 _ k rfl hk
  rw [he] at hv
  obtain ⟨A8, c8, ev⟩ := own_shape hv
  have c0 : w.cell? ⟨p, 16, none⟩ = some (.slice A8 0 c8) := by rw [cell_of_row w p 16 _ _ _ h.heap]; exact (flat_get ks 8 k hk).1.trans (by rw [ev]; rfl)
  have i1 : Old p w := ⟨(Array.getElem?_eq_some_iff.1 h.heap).1⟩
  clear hv he hP hk h
  go_enter Tryz.func37, Tryz.ntmps37
  go_wp2
  refine wp_loop_rounds 1 ?_
  rw [rounds_succ]
  go_wp2
  go_ret
  exact gr_same rfl

theorem markedOuts_any (A : Option Addr) (c : Nat) (w : World) : Calls Tryz.prog 73 #[.slice A 0 c] w (Gr (.bool true) w) := by
  go_enter Tryz.func73, Tryz.ntmps73
  go_wp2
  refine wp_loop_rounds 1 ?_
  rw [rounds_succ]
  go_wp2
  go_ret
  exact gr_same rfl

theorem stillSteps_any (p : Nat) (ks : List Kind) (w : World) (h : BookAt KT 53 w p ks) : Calls Tryz.prog 39 #[.pointer (some ⟨p, 0, none⟩)] w (Gr (.bool true) w) := by
  obtain ⟨k, hk⟩ : ∃ k, ks[10]? = some k := ⟨_, List.getElem?_eq_getElem (by rw [h.len]; decide)⟩
  have hP := book_toP h
  have he := hP.few 10 _ k rfl hk rfl
  obtain ⟨_, hv⟩ := hP.vrow 10 _ k rfl hk
  rw [he] at hv
  obtain ⟨A8, c8, ev⟩ := own_shape hv
  have c0 : w.cell? ⟨p, 20, none⟩ = some (.slice A8 0 c8) := by rw [cell_of_row w p 20 _ _ _ h.heap]; exact (flat_get ks 10 k hk).1.trans (by rw [ev]; rfl)
  have i1 : Old p w := ⟨(Array.getElem?_eq_some_iff.1 h.heap).1⟩
  clear hv he hP hk h
  go_enter Tryz.func39, Tryz.ntmps39
  go_wp2
  refine wp_loop_rounds 1 ?_
  rw [rounds_succ]
  go_wp2
  go_ret
  exact gr_same rfl

theorem markedSteps_any (A : Option Addr) (c : Nat) (w : World) : Calls Tryz.prog 75 #[.slice A 0 c] w (Gr (.bool true) w) := by
  go_enter Tryz.func75, Tryz.ntmps75
  go_wp2
  refine wp_loop_rounds 1 ?_
  rw [rounds_succ]
  go_wp2
  go_ret
  exact gr_same rfl

theorem stillRows_any (p : Nat) (ks : List Kind) (w : World) (h : BookAt KT 53 w p ks) : Calls Tryz.prog 40 #[.pointer (some ⟨p, 0, none⟩)] w (Gr (.bool true) w) := by
  obtain ⟨k, hk⟩ : ∃ k, ks[11]? = some k := ⟨_, List.getElem?_eq_getElem (by rw [h.len]; decide)⟩
  have hP := book_toP h
  have he := hP.few 11 _ k rfl hk rfl
  obtain ⟨_, hv⟩ := hP.vrow 11 _ k rfl hk
  rw [he] at hv
  obtain ⟨A8, c8, ev⟩ := own_shape hv
  have c0 : w.cell? ⟨p, 22, none⟩ = some (.slice A8 0 c8) := by rw [cell_of_row w p 22 _ _ _ h.heap]; exact (flat_get ks 11 k hk).1.trans (by rw [ev]; rfl)
  have i1 : Old p w := ⟨(Array.getElem?_eq_some_iff.1 h.heap).1⟩
  clear hv he hP hk h
  go_enter Tryz.func40, Tryz.ntmps40
  go_wp2
  refine wp_loop_rounds 1 ?_
  rw [rounds_succ]
  go_wp2
  go_ret
  exact gr_same rfl

theorem markedRows_any (A : Option Addr) (c : Nat) (w : World) : Calls Tryz.prog 76 #[.slice A 0 c] w (Gr (.bool true) w) := by
  go_enter Tryz.func76, Tryz.ntmps76
  go_wp2
  refine wp_loop_rounds 1 ?_
  rw [rounds_succ]
  go_wp2
  go_ret
  exact gr_same rfl
end Go.Proofs.YteemkceceaabkaaGreat
