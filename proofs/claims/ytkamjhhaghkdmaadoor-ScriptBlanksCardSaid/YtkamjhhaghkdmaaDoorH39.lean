/- script: which words stand at a place; alike. -/
import Derived.Test.YtkamjhhaghkdmaaDoorH38
namespace Go.Ear
set_option linter.unusedSimpArgs false
set_option linter.unusedVariables false
/-- May a word stand at a place? -/
def isP : Pl → Wd → Bool
  | .sign, y => y.kind == 2 && ((cnt ⟨y.text.toArray⟩ : Int) == 1)
  | .num _, y => y.kind == 3
  | .text, y => y.kind == 4
theorem fitsP_cons (p : Pl) (y : Wd) (ps : List Pl) (ws : List Wd) : fitsP (p :: ps) (y :: ws) = (isP p y && fitsP ps ws) := by
  have hn : ∀ n : Nat, ((n : Int) == 1) = decide (n = 1) := fun n => by
    by_cases h : n = 1
    · subst h; rfl
    · rw [decide_eq_false h]
      exact beq_eq_false_iff_ne.2 (by omega)
  cases p with
  | sign => simp only [fitsP, isP, hn]; rfl
  | num i => rfl
  | text => rfl
theorem fitsP_len : ∀ (ps : List Pl) (ws : List Wd), fitsP ps ws = true → ws.length = ps.length
  | [], [], _ => rfl
  | [], _ :: _, h => by cases h
  | .sign :: _, [], h => by cases h
  | .num _ :: _, [], h => by cases h
  | .text :: _, [], h => by cases h
  | p :: ps, y :: ws, h => by
    rw [fitsP_cons, Bool.and_eq_true] at h
    have := fitsP_len ps ws h.2
    simp [this]
theorem flat_get {α β : Type} (f : α → List β) (m : Nat) : ∀ (l : List α), (∀ x ∈ l, (f x).length = m) → ∀ (k j : Nat) (x : α), l[k]? = some x → j < m → (l.flatMap f)[k * m + j]? = (f x)[j]?
  | [], _, k, j, x, h, _ => by simp at h
  | a :: l, hl, 0, j, x, h, hj => by
    simp only [List.getElem?_cons_zero, Option.some.injEq] at h
    subst h
    have := hl a (by simp)
    rw [List.flatMap_cons, List.getElem?_append_left (by omega), Nat.zero_mul, Nat.zero_add]
  | a :: l, hl, k + 1, j, x, h, hj => by
    have ha := hl a (by simp)
    have e : (k + 1) * m + j = m + (k * m + j) := by rw [Nat.add_mul, Nat.one_mul]; omega
    rw [List.flatMap_cons, e, List.getElem?_append_right (by omega), ha, Nat.add_sub_cancel_left]
    exact flat_get f m l (fun y hy => hl y (by simp [hy])) k j x (by simpa using h) hj
theorem drop_cons {α : Type} {l : List α} {k : Nat} {x : α} (h : l[k]? = some x) : l.drop k = x :: l.drop (k + 1) := by
  obtain ⟨h1, h2⟩ := List.getElem?_eq_some_iff.1 h
  rw [← h2]
  exact List.drop_eq_getElem_cons h1
end Go.Ear
namespace Go.Proofs.YtkamjhhaghkdmaaDoor
open Go.RowKit Go.Ear Go.Shelf
set_option maxHeartbeats 4000000
set_option maxRecDepth 100000
set_option linter.unusedSimpArgs false
set_option linter.unusedVariables false
theorem sign1_v (ln : Nat) (y : Wd) (w : World) (hs : y.text.length ≤ 100000000000) : Calls Tryd.prog 63 #[.agg #[.int .i64 y.kind, .string ⟨y.text.toArray⟩, .int .i64 (ln : Int), .int .i64 (y.col : Int)]] w (Gc (.bool (isP .sign y)) w) := by
  have hco := fun W => gr_gc (count_any ⟨y.text.toArray⟩ W (by show y.text.toArray.size ≤ _; simpa using hs))
  obtain ⟨kd, hkd⟩ : ∃ kd, y.kind = kd := ⟨_, rfl⟩
  obtain ⟨t, ht⟩ : ∃ t, (⟨y.text.toArray⟩ : ByteArray) = t := ⟨_, rfl⟩
  show Calls _ _ _ _ (Gc (.bool (y.kind == 2 && ((cnt ⟨y.text.toArray⟩ : Int) == 1))) w)
  rw [ht] at hco
  rw [hkd, ht]
  clear hkd ht hs
  obtain ⟨n, hn⟩ : ∃ n, cnt t = n := ⟨_, rfl⟩
  rw [hn] at hco ⊢
  clear hn
  by_cases h : kd = 2
  · subst h
    rw [show ((2 : Int) == 2) = true from rfl]
    go_enter Tryd.func63, Tryd.ntmps63
    go_wp2_with (go_at_call 14; refine (hco _).mono ?_; rintro e w' ⟨rfl, hc⟩)
    go_ret
    exact ⟨rfl, (chg_alloc (Chg.refl _ _) _).trans hc (fun _ _ h => h)⟩
  · have x1 : (kd == 2) = false := beq_eq_false_iff_ne.2 h
    rw [x1]
    clear hco
    go_enter Tryd.func63, Tryd.ntmps63
    go_wp2_with fail
    go_ret
    exact ⟨rfl, chg_alloc (Chg.refl _ _) _⟩
theorem place_size {w : World} {p : Pl} {v : Value} (h : PlV w p v) : v.cells.toList.length = 3 := by
  obtain ⟨x, y, z, rfl⟩ := h.parts
  rfl
/-- The cells of a place in a list of places. -/
theorem PlsV.at {w : World} {ps : List Pl} {g n c : Nat} (h : PlsV w ps (.slice (some ⟨g, 0, none⟩) n c)) : n = ps.length ∧ c = ps.length ∧ g < w.heap.size ∧ ∀ (k : Nat) p, ps[k]? = some p → ∃ x y z, PlV w p (.agg #[x, y, z]) ∧
    w.cell? ⟨g, k * 3, none⟩ = some x ∧ w.cell? ⟨g, k * 3 + 1, none⟩ = some y ∧ w.cell? ⟨g, k * 3 + 2, none⟩ = some z := by
  obtain ⟨g', vs, z, e, hb, hl, hP⟩ := h
  simp only [Value.slice.injEq, Option.some.injEq, Addr.mk.injEq, and_true] at e
  obtain ⟨rfl, rfl, rfl⟩ := e
  refine ⟨rfl, rfl, (Array.getElem?_eq_some_iff.1 hb).1, fun k p hp => ?_⟩
  have hk := (List.getElem?_eq_some_iff.1 hp).1
  have hv : vs[k]? = some vs[k] := List.getElem?_eq_getElem (by omega)
  have hq := hP k p _ hp hv
  have h3 : ∀ x ∈ vs, x.cells.toList.length = 3 := fun x hx => by
    obtain ⟨i, hi, rfl⟩ := List.mem_iff_getElem.1 hx
    have hpi : ps[i]? = some ps[i] := List.getElem?_eq_getElem (by omega)
    exact place_size (hP i _ _ hpi (List.getElem?_eq_getElem hi))
  obtain ⟨x, y, z, e⟩ := hq.parts
  rw [e] at hq hv
  refine ⟨x, y, z, hq, ?_, ?_, ?_⟩
  · rw [cell_of_row _ _ _ _ _ _ hb]
    have := flat_get (fun x : Value => x.cells.toList) 3 vs h3 k 0 _ hv (by decide)
    simpa [Value.cells] using this
  · rw [cell_of_row _ _ _ _ _ _ hb]
    have := flat_get (fun x : Value => x.cells.toList) 3 vs h3 k 1 _ hv (by decide)
    simpa [Value.cells] using this
  · rw [cell_of_row _ _ _ _ _ _ hb]
    have := flat_get (fun x : Value => x.cells.toList) 3 vs h3 k 2 _ hv (by decide)
    simpa [Value.cells] using this
/-- The cells of a word in a slice of words. -/
theorem tok_at {w : World} {A : Option Addr} {n c ln : Nat} {ws : List Wd} (h : SL w (.slice A n c) n 4 (flT (ws.map fun y => (ln, y)))) (hn : n = ws.length) : 0 < n → ∃ b off, A = some ⟨b, off, none⟩ ∧ b < w.heap.size ∧ ∀ (k : Nat) y, ws[k]? = some y →
    w.cell? ⟨b, off + k * 4, none⟩ = some (.int .i64 y.kind) ∧ w.cell? ⟨b, off + k * 4 + 1, none⟩ = some (.string ⟨y.text.toArray⟩) ∧ w.cell? ⟨b, off + k * 4 + 2, none⟩ = some (.int .i64 (ln : Int)) ∧ w.cell? ⟨b, off + k * 4 + 3, none⟩ = some (.int .i64 (y.col : Int)) := by
  intro hp
  obtain ⟨_, A', c', e, _, _, hA⟩ := h
  simp only [Value.slice.injEq, true_and] at e
  obtain ⟨rfl, rfl⟩ := e
  obtain ⟨b, off, rfl, hb, hc⟩ := hA hp
  refine ⟨b, off, rfl, hb, fun k y hy => ?_⟩
  have hv : (ws.map fun y => (ln, y))[k]? = some (ln, y) := by rw [List.getElem?_map, hy]; rfl
  have hg := fun j hj => flat_get (fun x : Nat × Wd => tv x.1 x.2) 4 (ws.map fun y => (ln, y)) (fun x _ => rfl) k j _ hv hj
  refine ⟨?_, ?_, ?_, ?_⟩
  · exact hc (k * 4) _ ((hg 0 (by decide)).trans rfl)
  · exact hc (k * 4 + 1) _ ((hg 1 (by decide)).trans rfl)
  · exact hc (k * 4 + 2) _ ((hg 2 (by decide)).trans rfl)
  · exact hc (k * 4 + 3) _ ((hg 3 (by decide)).trans rfl)
theorem alike_ne (A B : Option Addr) (n m c d : Nat) (w : World) (h : m ≠ n) : Calls Tryd.prog 32 #[.slice A n c, .slice B m d] w (Gc (.bool false) w) := by
  have x1 : ((m : Int) == (n : Int)) = false := beq_eq_false_iff_ne.2 (by omega)
  have x2 : ((m : Int) != (n : Int)) = true := by simp [bne, x1]
  have x3 : ((m : Nat) == n) = false := beq_eq_false_iff_ne.2 h
  go_enter Tryd.func32, Tryd.ntmps32
  go_wp2_with fail
  go_ret
  exact ⟨rfl, Chg.refl _ _⟩
theorem alike_v (ps : List Pl) (ws : List Wd) (ln : Nat) (v : Value) (A : Option Addr) (c : Nat) (w : World) (hv : PlsV w ps v) (hw : SL w (.slice A ws.length c) ws.length 4 (flT (ws.map fun y => (ln, y)))) (hs : ∀ y ∈ ws, y.text.length ≤ 100000000000) (hlen : ws.length ≤ 100000000000) :
    Calls Tryd.prog 32 #[v, .slice A ws.length c] w (Gc (.bool (fitsP ps ws)) w) := by
  obtain ⟨g, vs, z, rfl, _⟩ := id hv
  by_cases hne : ws.length = ps.length
  · have hat := PlsV.at hv
    have htk := tok_at hw rfl
    have hgb := hat.2.2.1
    obtain ⟨N, hN⟩ : ∃ N, ws.length = N := ⟨_, rfl⟩
    obtain ⟨R, hR⟩ : ∃ R, fitsP ps ws = R := ⟨_, rfl⟩
    rw [← hne, hN] 
    rw [hN] at htk
    rw [hR]
    have HS := Lib.hid (And.intro hN (And.intro hne (And.intro hat.2.2.2 (And.intro htk (And.intro hs (And.intro hR hlen))))))
    clear hw hv hat htk hs hlen
    rw [hN] at hne
    have hNb : N ≤ 100000000000 := by have := HS.out.2.2.2.2.2.2; have := HS.out.1; omega
    clear hN hne hR
    go_enter Tryd.func32, Tryd.ntmps32
    go_wp2_with fail
    go_loopw [5, 14] (fun i5 i14 wr => ∃ k, k ≤ N ∧ i14 = .int .i64 k ∧ Chg Noth w wr ∧ R = fitsP (ps.drop k) (ws.drop k)) (fun i5 i14 _ => N - (intOf i14).toNat)
    case atStart => exact ⟨0, Nat.zero_le _, rfl, Chg.refl _ _, HS.out.2.2.2.2.2.1.symm⟩
    case round =>
      obtain ⟨k, hk, rfl, hc, hfit⟩ := hrel
      by_cases hlt : k < N
      · obtain ⟨p, hp⟩ : ∃ p, ps[k]? = some p := ⟨_, List.getElem?_eq_getElem (by have := HS.out.1; have := HS.out.2.1; omega)⟩
        obtain ⟨y, hy⟩ : ∃ y, ws[k]? = some y := ⟨_, List.getElem?_eq_getElem (by have := HS.out.1; omega)⟩
        obtain ⟨f0, f1, f2, hpl, q0, _, _⟩ := HS.out.2.2.1 k p hp
        obtain ⟨b, off, rfl, hb, htk⟩ := HS.out.2.2.2.1 (by omega)
        obtain ⟨t0, t1, t2, t3⟩ := htk k y hy
        have hyl := HS.out.2.2.2.2.1 y (List.mem_of_getElem? hy)
        rw [drop_cons hp, drop_cons hy, fitsP_cons] at hfit
        have q0 := (hc.cell (p := ⟨g, k * 3, none⟩) hgb (fun e => e)).trans q0
        have t0 := (hc.cell (p := ⟨b, off + k * 4, none⟩) hb (fun e => e)).trans t0
        have t1 := (hc.cell (p := ⟨b, off + k * 4 + 1, none⟩) hb (fun e => e)).trans t1
        have t2 := (hc.cell (p := ⟨b, off + k * 4 + 2, none⟩) hb (fun e => e)).trans t2
        have t3 := (hc.cell (p := ⟨b, off + k * 4 + 3, none⟩) hb (fun e => e)).trans t3
        have jg : Old g wr := ⟨Nat.lt_of_lt_of_le hgb hc.size⟩
        have jb : Old b wr := ⟨Nat.lt_of_lt_of_le hb hc.size⟩
        replace hpl := hpl.grow hc
        have HC := Lib.hid hc
        clear hc hgb hb htk hp hy
        obtain ⟨q, hq⟩ : ∃ q, isP p y = q := ⟨_, rfl⟩
        rw [hq] at hfit
        have HF := Lib.hid hfit
        clear hfit
        rcases p with _ | i | _
        · obtain ⟨rfl, rfl, rfl⟩ : f0 = _ ∧ f1 = _ ∧ f2 = _ := by simpa [PlV] using hpl
          have hcall : ∀ W, Chg Noth wr W → Calls _ _ _ W (Gr (.bool q) W) := fun W _ => gc_gr (hq ▸ sign1_v ln y W hyl)
          clear hpl hq
          cases q
          all_goals
            go_wp2_with fail
            refine wp_region_grows (by kernel_rfl) (by kernel_rfl) ?_
            repeat (go_big_quiet_step ((go_at_call 63; exact grows_of (hcall _ ((chg_alloc (Chg.refl _ _) _).trans (Muts.h _) (fun _ _ h => h))))))
            refine wpQuiet_nil ?_
            rintro _ ⟨g2, rfl⟩
            clear hcall
            go_wp2_with fail
          · go_ret
            have hR := HF.out
            rw [Bool.false_and] at hR
            rw [hR]
            exact ⟨rfl, HC.out.trans ((chg_alloc (Chg.refl _ _) _).trans g2.h (fun _ _ h => h)) (fun _ _ h => h)⟩
          · go_roundw
            case rel => exact ⟨k + 1, by omega, by go_num, HC.out.trans ((chg_alloc (Chg.refl _ _) _).trans g2.h (fun _ _ h => h)) (fun _ _ h => h), by have hR := HF.out; rwa [Bool.true_and] at hR⟩
            case measure => simp [intOf]; omega
        · obtain ⟨b1, b2, z1, z2, e, hb1, _⟩ := hpl
          simp only [Value.agg.injEq, Array.mk.injEq, List.cons.injEq, and_true] at e
          obtain ⟨rfl, rfl, rfl⟩ := e
          have hcall : ∀ W, Chg Noth wr W → Calls _ _ _ W (Gr (.bool q) W) := fun W hW => gc_gr ((show (y.kind == 3) = q from hq) ▸ isKind1_v b1 3 ln y W ((cell_of_row _ _ _ _ _ _ (blk_grow hW hb1)).trans rfl) (Array.getElem?_eq_some_iff.1 (blk_grow hW hb1)).1)
          clear hb1 hq
          cases q
          all_goals
            go_wp2_with fail
            refine wp_region_grows (by kernel_rfl) (by kernel_rfl) ?_
            repeat (go_big_quiet_step ((go_at_call 78; exact grows_of (hcall _ ((chg_alloc (Chg.refl _ _) _).trans (Muts.h _) (fun _ _ h => h))))))
            refine wpQuiet_nil ?_
            rintro _ ⟨g2, rfl⟩
            clear hcall
            go_wp2_with fail
          · go_ret
            have hR := HF.out
            rw [Bool.false_and] at hR
            rw [hR]
            exact ⟨rfl, HC.out.trans ((chg_alloc (Chg.refl _ _) _).trans g2.h (fun _ _ h => h)) (fun _ _ h => h)⟩
          · go_roundw
            case rel => exact ⟨k + 1, by omega, by go_num, HC.out.trans ((chg_alloc (Chg.refl _ _) _).trans g2.h (fun _ _ h => h)) (fun _ _ h => h), by have hR := HF.out; rwa [Bool.true_and] at hR⟩
            case measure => simp [intOf]; omega
        · obtain ⟨b1, z1, e, hb1⟩ := hpl
          simp only [Value.agg.injEq, Array.mk.injEq, List.cons.injEq, and_true] at e
          obtain ⟨rfl, rfl, rfl⟩ := e
          have hcall : ∀ W, Chg Noth wr W → Calls _ _ _ W (Gr (.bool q) W) := fun W hW => gc_gr ((show (y.kind == 4) = q from hq) ▸ isKind1_v b1 4 ln y W ((cell_of_row _ _ _ _ _ _ (blk_grow hW hb1)).trans rfl) (Array.getElem?_eq_some_iff.1 (blk_grow hW hb1)).1)
          clear hb1 hq
          cases q
          all_goals
            go_wp2_with fail
            refine wp_region_grows (by kernel_rfl) (by kernel_rfl) ?_
            repeat (go_big_quiet_step ((go_at_call 78; exact grows_of (hcall _ ((chg_alloc (Chg.refl _ _) _).trans (Muts.h _) (fun _ _ h => h))))))
            refine wpQuiet_nil ?_
            rintro _ ⟨g2, rfl⟩
            clear hcall
            go_wp2_with fail
          · go_ret
            have hR := HF.out
            rw [Bool.false_and] at hR
            rw [hR]
            exact ⟨rfl, HC.out.trans ((chg_alloc (Chg.refl _ _) _).trans g2.h (fun _ _ h => h)) (fun _ _ h => h)⟩
          · go_roundw
            case rel => exact ⟨k + 1, by omega, by go_num, HC.out.trans ((chg_alloc (Chg.refl _ _) _).trans g2.h (fun _ _ h => h)) (fun _ _ h => h), by have hR := HF.out; rwa [Bool.true_and] at hR⟩
            case measure => simp [intOf]; omega
      · obtain rfl : k = N := by omega
        have x1 : decide (k < k) = false := decide_eq_false (by omega)
        obtain rfl : R = true := by
          have h1 := HS.out
          rw [List.drop_of_length_le (by omega), List.drop_of_length_le (by omega)] at hfit
          exact hfit
        have HC := Lib.hid hc
        clear hc hfit
        go_wp2_with fail
        go_ret
        exact ⟨rfl, HC.out⟩
  · have hf : fitsP ps ws = false := by
      cases hx : fitsP ps ws with
      | false => rfl
      | true => exact absurd (fitsP_len ps ws hx) hne
    rw [hf]
    exact alike_ne _ _ _ _ _ _ w hne
end Go.Proofs.YtkamjhhaghkdmaaDoor
