/- script: all lines read. -/
import Derived.Test.YtkamjhhaghkdmaaDoorH46
namespace Go.Proofs.YtkamjhhaghkdmaaDoor
open Go.RowKit Go.Ear Go.Shelf
attribute [local go_sem] Oper.semAt_some
set_option maxHeartbeats 4000000
set_option maxRecDepth 100000
set_option linter.unusedSimpArgs false
set_option linter.unusedVariables false
/-- What script comes to. -/
def ScrPost (w : World) (p : Nat) (R : Except (Int × Nat) (List UInt8 × Int × List StepS)) : Ending → World → Prop := fun e X => Chg (fun k => k = p) w X ∧ match R with
  | .error (er, no) => e = .panicked [{ v := .iface 38 (.agg #[.int .i64 er, .int .i64 (no : Int)]), recovered := false }]
  | .ok (b, f, L) => e = .returned (.tuple #[]) ∧ ∃ l gs vs, RdIs X p w.heap.size b f l L gs vs
theorem script_v (p : Nat) (A : Option Addr) (c : Nat) (rows : List (Nat × List Wd × Nat)) (w : World) (hk : ∀ r ∈ rows, ∀ x ∈ r.2.1, x.kind ≠ 1) (hlen : (toks rows).length ≤ 5000000000) (hs : SL w (.slice A (toks rows).length c) (toks rows).length 4 (flT (toks rows)))
    (hsm : ∀ r ∈ full rows, r.2 ≠ [] ∧ r.2.length ≤ 100000 ∧ ∀ y ∈ r.2, y.text.length ≤ 100000) (hp : w.heap[p]? = some rdZero) :
    Calls Tryd.prog 10 #[.pointer (some ⟨p, 0, none⟩), .slice A (toks rows).length c] w (ScrPost w p (parseRows (full rows))) := by
  have hmf : ∀ (fn : Fn) (first cap : Array Value) (w : World), (Instr.makeFunc fn first cap).run Tryd.prog w = .ok (.func fn first cap) w := fun _ _ _ _ => rfl
  have hpw := (Array.getElem?_eq_some_iff.1 hp).1
  have hli := fun W => lines_fn A (toks rows).length c W
  refine (callsIn_wide (n := 5)).1 ?_
  refine callsIn_of_wpE_marks Tryd.func10 rfl trivial ?_
  simp only [Tryd.ntmps10, List.size_toArray, List.length_cons, List.length_nil, Nat.reduceAdd, Nat.reduceSub, Array.replicate_succ, Array.replicate_zero, List.push_toArray, List.append_toArray, List.nil_append, List.cons_append]
  refine wpE_seq_k fun K hK => ?_
  refine wpE_of_wpIn ?_
  gi_wp2
  refine wpE_seq_k fun K hK => ?_
  refine wpE_of_wpIn ?_
  gi_wp2
  refine wpE_seq_k fun K hK => ?_
  refine wpE_seq_k fun K2 hK2 => ?_
  refine wpE_of_wpIn ?_
  gi_wp2_with (refine ⟨trivial, ?_⟩; gi_at_call 17; refine (callsIn_wide.2 (hli _)).mono ?_; rintro e X ⟨rfl, rfl⟩)
  refine wpE_block ?_
  have hX2 : (((w.alloc (.cells #[.pointer (some ⟨p, 0, none⟩)] 40)).alloc (.cells #[.bool false] 4)).alloc (.cells #[.slice A (toks rows).length c] 29)).heap[w.heap.size + 1 + 1]? = some (.cells #[.slice A (toks rows).length c] 29 (0, 0)) := heap_hs _ _ (w.heap.size + 1 + 1)
  have hX1 : (((w.alloc (.cells #[.pointer (some ⟨p, 0, none⟩)] 40)).alloc (.cells #[.bool false] 4)).alloc (.cells #[.slice A (toks rows).length c] 29)).heap[w.heap.size + 1]? = some (.cells #[.bool false] 4 (0, 0)) := (Below.heap_alloc _ _ _ (by simp)).trans (heap_hs _ _ (w.heap.size + 1))
  have hX0 : (((w.alloc (.cells #[.pointer (some ⟨p, 0, none⟩)] 40)).alloc (.cells #[.bool false] 4)).alloc (.cells #[.slice A (toks rows).length c] 29)).heap[w.heap.size]? = some (.cells #[.pointer (some ⟨p, 0, none⟩)] 40 (0, 0)) := (Below.heap_alloc _ _ _ (by simp; omega)).trans ((Below.heap_alloc _ _ _ (by simp)).trans (heap_alloc_new _ _))
  have hcX : Chg Noth w (((w.alloc (.cells #[.pointer (some ⟨p, 0, none⟩)] 40)).alloc (.cells #[.bool false] 4)).alloc (.cells #[.slice A (toks rows).length c] 29)) := chg_alloc (chg_alloc (chg_alloc (Chg.refl _ _) _) _) _
  have hszX : (((w.alloc (.cells #[.pointer (some ⟨p, 0, none⟩)] 40)).alloc (.cells #[.bool false] 4)).alloc (.cells #[.slice A (toks rows).length c] 29)).heap.size = w.heap.size + 1 + 1 + 1 := by simp
  generalize (((w.alloc (.cells #[.pointer (some ⟨p, 0, none⟩)] 40)).alloc (.cells #[.bool false] 4)).alloc (.cells #[.slice A (toks rows).length c] 29)) = X at *
  have hsX := hs.grow hcX
  have hI0 : SI w p w.heap.size (full rows) [] X := ⟨hcX.mono (fun _ _ h => h.elim), hX0, .inl ⟨rfl, hX1, blk_grow hcX hp⟩⟩
  refine wpIn_range_givenQ (F := Fence.wide) (n := 5) rfl (by omega) (gf := 28) (lb := #[.pointer (some ⟨w.heap.size + 1 + 1, 0, none⟩)]) rfl trivial (enters_of Tryd.func28 (by kernel_rfl) rfl)
    (lines_givenQ 4 (by omega) (w.heap.size + 1 + 1) _ 29 (0, 0) rows hk hlen X hX2 hsX) KpL.trans (fun W l o o' _ ho hc _ => KpL.put ho hc) (Below.refl _ _) (fun _ => rfl)
    (fun pre x => lnGave_ownL _ _ _ pre x) ⟨fun _ _ _ h _ => h, fun _ _ _ _ _ h _ _ => h⟩ (SI w p w.heap.size (full rows)) (fun _ _ _ => False) (si_ownL _ _ _ _ _ (by omega)) (fun c => ⟨fun _ _ _ h _ => h, fun _ _ _ _ _ h _ _ => h⟩) (fun ch _ W => SPan w p (full rows) ch W) hI0
    (fun x a' W => a' = { tmps := #[.pointer (some ⟨p, 0, none⟩), .slice A (toks rows).length c, .pointer (some ⟨w.heap.size, 0, none⟩), undef, .pointer (some ⟨w.heap.size + 1, 0, none⟩), .int .i64 (x.i : Int), x.v, undef, undef, .slice A (toks rows).length c, .func (.func 28) #[] #[.pointer (some ⟨w.heap.size + 1 + 1, 0, none⟩)], .int .i64 (x.i : Int), x.v, undef, undef, undef, undef, undef, undef, undef, undef, undef, undef, undef, undef, undef, undef, undef, undef, undef, undef, undef, undef, undef, undef], defers := [] }) ?hAx ?assign ?body ?done ?pan ?stop
  case hAx => exact fun x a' => ⟨fun _ _ _ h _ => h, fun _ _ _ _ _ h _ _ => h⟩
  case assign =>
    intro l pre x W K hi hg hK
    obtain ⟨xi, xv⟩ := x
    simp only [Ln.enc]
    gi_wp2
    exact hK _ _ (KeepsFrom.refl _ _) ⟨Nat.le_refl _, fun _ _ _ _ _ => rfl⟩ hi hg rfl
  case body =>
    rintro l pre x a' W hl _ hi hg rfl hlt
    obtain ⟨hxi, no, ws, g, s, cs, z, hfr, hxv, hgn, hgb, hwl⟩ := hg.sl
    obtain ⟨xi, xv⟩ := x
    simp only at hxi hxv
    subst hxi
    subst hxv
    obtain ⟨hws, hwn, hwt⟩ := hsm _ (List.mem_of_getElem? hfr)
    simp only at hws hwn hwt
    obtain ⟨hcW, hq0, hst⟩ := hi
    obtain ⟨w0', wr', rfl⟩ : ∃ a b, ws = a :: b := by
      cases ws with
      | nil => exact absurd rfl hws
      | cons a b => exact ⟨a, b, rfl⟩
    obtain ⟨g', s', e, hgW, htk⟩ := tok_at hwl rfl (by simp)
    simp only [Option.some.injEq, Addr.mk.injEq, and_true] at e
    obtain ⟨rfl, rfl⟩ := e
    have t2 := (htk 0 w0' rfl).2.2.1
    simp only [Nat.zero_mul, Nat.add_zero] at t2
    clear htk
    have jg : Old g W := ⟨hgW⟩
    have a0 : W.cell? ⟨w.heap.size, 0, none⟩ = some (.pointer (some ⟨p, 0, none⟩)) := (cell_of_row _ _ _ _ _ _ hq0).trans rfl
    have jq : Old w.heap.size W := ⟨(Array.getElem?_eq_some_iff.1 hq0).1⟩
    obtain ⟨N, hN⟩ : ∃ N, (w0' :: wr').length = N := ⟨_, rfl⟩
    have hNp : 0 < N := by rw [← hN]; simp
    rw [hN] at hwl hwn ⊢
    rcases hst with ⟨rfl, hq1, hrd⟩ | ⟨hpre, hq1, b, l0, f, L, gs, vs, hstk, hRd⟩
    · have a1 : W.cell? ⟨w.heap.size + 1, 0, none⟩ = some (.bool false) := (cell_of_row _ _ _ _ _ _ hq1).trans rfl
      have jq1 : Old (w.heap.size + 1) W := ⟨(Array.getElem?_eq_some_iff.1 hq1).1⟩
      have z1 : W.frozen? ⟨w.heap.size + 1, 0, none⟩ = false := frozen_of_row _ _ 0 _ _ hq1
      have hg1 : ¬ g = w.heap.size + 1 := fun e => by subst e; rw [hgb] at hq1; cases hq1
      have hp1 : ¬ p = w.heap.size + 1 := fun e => by omega
      have hgp : ¬ g = p := fun e => by subst e; rw [hgb] at hrd; cases hrd
      have hcS : Chg (fun k => k = w.heap.size + 1) W (W.setCell ⟨w.heap.size + 1, 0, none⟩ (.bool true)) := chg_set_b (Chg.refl _ _)
      have hSLs : SL (W.setCell ⟨w.heap.size + 1, 0, none⟩ (.bool true)) (.slice (some ⟨g, s, none⟩) N N) N 4 (flT ((w0' :: wr').map fun y => (no, y))) := hwl.chg hcS (fun k _ hk e => by simp only [Value.ownBlock, Option.some.injEq] at hk; omega)
      have hhd := head_v p w.heap.size no N (w0' :: wr') (some ⟨g, s, none⟩) N _ _ _ _ _ (W.setCell ⟨w.heap.size + 1, 0, none⟩ (.bool true)) hN.symm hSLs ((heap_set_far _ _ _ _ hp1).trans hrd) hwt (fun k hk => by simp only [Value.ownBlock, Option.some.injEq] at hk; omega)
      have hfs := StK.first hfr
      have t2' : (W.setCell ⟨w.heap.size + 1, 0, none⟩ (.bool true)).cell? ⟨g, s + 2, none⟩ = some (.int .i64 (no : Int)) := (hcS.cell (p := ⟨g, s + 2, none⟩) hgW hg1).trans t2
      have HH := Lib.hid (And.intro hcW (And.intro hq0 (And.intro hq1 (And.intro hrd (And.intro hgb hfs)))))
      clear hcW hq0 hq1 hrd hgb hfs hwl hSLs hfr
      gi_wp2_with fail
      refine ⟨trivial, ?_⟩
      gi_at_call 19
      refine (CallsIn.inRound l (callsIn_wide.2 hhd)).mono ?_
      intro e X1 hpost
      have hFW : Chg (fun k => k = p ∨ k = w.heap.size + 1) W X1 → KeepsFrom X.heap.size W X1 ∧ KpL X.heap.size W X1 ∧ Chg (fun k => k = p) w X1 := fun hc => by
        obtain ⟨h1, h2, h3, h4, _, _⟩ := HH.out
        refine ⟨keepsG hc fun k hk => ?_, kpL_of hc fun k hk _ => ?_, h1.trans hc fun i hi hk => by omega⟩
        · rcases hk with rfl | rfl
          · exact .inr ⟨_, _, _, h4⟩
          · exact .inr ⟨_, _, _, h3⟩
        · rcases hk with rfl | rfl
          · exact ⟨_, _, _, h4, by decide, by decide⟩
          · exact ⟨_, _, _, h3, by decide, by decide⟩
      have hcs2 : Chg (fun k => k = p ∨ k = w.heap.size + 1) W (W.setCell ⟨w.heap.size + 1, 0, none⟩ (.bool true)) := hcS.mono (fun _ _ h => .inr h)
      have hX1 : Chg (fun k => k = p) (W.setCell ⟨w.heap.size + 1, 0, none⟩ (.bool true)) X1 → X1.heap[w.heap.size]? = some (.cells #[.pointer (some ⟨p, 0, none⟩)] 40) ∧ X1.heap[w.heap.size + 1]? = some (.cells #[.bool true] 4) := fun hc => by
        obtain ⟨h1, h2, h3, h4, _, _⟩ := HH.out
        exact ⟨blk_not hc ((heap_set_far _ _ _ _ (by omega)).trans h2) (by omega), blk_not hc ((heap_setCell_same _ _ _ _ _ _ h3).trans rfl) (by omega)⟩
      cases hR : headS (w0' :: wr') with
      | error er =>
        rw [hR] at hpost
        obtain ⟨h0, rfl, hc⟩ := hpost
        have y1 : (er != 0) = true := by simpa using h0
        have hpr := HH.out.2.2.2.2.2.1 er hR
        have t3 := (hc.cell (p := ⟨g, s + 2, none⟩) (by simp [World.setCell]; exact hgW) hgp).trans t2'
        have jg1 : Old g X1 := ⟨Nat.lt_of_lt_of_le (by simp [World.setCell]; exact hgW) hc.size⟩
        have hall := hFW (hcs2.trans hc (fun _ _ h => .inl h))
        have HF := Lib.hid (And.intro hall hpr)
        clear hall hpr hc hX1 hFW hcs2 hcS t2 t2' hhd h0 hR
        gi_wp2
        exact ⟨rfl, HF.out.1.1, er, no, HF.out.2, rfl, HF.out.1.2.2⟩
      | ok r0 =>
        obtain ⟨b, l0, f⟩ := r0
        rw [hR] at hpost
        obtain ⟨rfl, hc, hRd⟩ := hpost
        have hpr := HH.out.2.2.2.2.2.2 b l0 f hR
        have hall := hFW (hcs2.trans hc (fun _ _ h => .inl h))
        have hx := hX1 hc
        have HF := Lib.hid (And.intro hall (And.intro hpr (And.intro hx hRd)))
        clear hall hpr hc hX1 hFW hcs2 hcS t2 t2' hhd hR hx hRd
        gi_wp2
        exact ⟨HF.out.1.1, HF.out.1.2.1, HF.out.1.2.2, HF.out.2.2.1.1, .inr ⟨by simp, HF.out.2.2.1.2, b, l0, f, [], _, _, HF.out.2.1, HF.out.2.2.2⟩⟩
    · have hpl : 0 < pre.length := List.length_pos_iff.2 hpre
      have xp : ((pre.length : Int) == 0) = false := beq_eq_false_iff_ne.2 (by omega)
      have hst := step_v p w.heap.size b f l0 L gs vs no w0' wr' (some ⟨g, s, none⟩) N N W (by rw [← hN]; rfl) hRd hwl hwt hwn hcW.size
      have hnx := hstk.next hpl hfr
      obtain ⟨np, hnp⟩ : ∃ np, pre.length = np := ⟨_, rfl⟩
      have hgp : ¬ FStep p gs g := by
        rintro (e | e)
        · subst e
          obtain ⟨t, A', c', m, hb', _⟩ := hRd.blk
          rw [hgb] at hb'
          cases hb'
        · obtain ⟨cs', hb'⟩ := own_blk hRd.ss.own _ e
          rw [hgb] at hb'
          cases hb'
      have hFW : ∀ X1, Chg (FStep p gs) W X1 → KeepsFrom X.heap.size W X1 ∧ KpL X.heap.size W X1 ∧ Chg (fun k => k = p) w X1 ∧ X1.heap[w.heap.size]? = some (.cells #[.pointer (some ⟨p, 0, none⟩)] 40) ∧ X1.heap[w.heap.size + 1]? = some (.cells #[.bool true] 4) := fun X1 hc => by
        obtain ⟨t, A', c', m, hb', _⟩ := hRd.blk
        have hty : ∀ k, FStep p gs k → ∃ cs t z, W.heap[k]? = some (.cells cs t z) ∧ (t = 46 ∨ t = 50) := fun k hk => by
          rcases hk with rfl | hk
          · exact ⟨_, _, _, hb', .inl rfl⟩
          · obtain ⟨cs', hb'⟩ := own_blk hRd.ss.own _ hk
            exact ⟨_, _, _, hb', .inr rfl⟩
        have hnt : ∀ k cs t z, W.heap[k]? = some (.cells cs t z) → t ≠ 46 → t ≠ 50 → ¬ FStep p gs k := fun k cs t z hb h1 h2 hf => by
          obtain ⟨cs', t', z', hb2, h3⟩ := hty k hf
          rw [hb] at hb2
          simp only [Option.some.injEq, Obj.cells.injEq] at hb2
          rcases h3 with h3 | h3
          · exact h1 (hb2.2.1.trans h3)
          · exact h2 (hb2.2.1.trans h3)
        refine ⟨keepsG hc fun k hk => ?_, kpL_of hc fun k hk _ => ?_, hcW.trans hc fun i hi hk => ?_, blk_not hc hq0 (hnt _ _ _ _ hq0 (by decide) (by decide)), blk_not hc hq1 (hnt _ _ _ _ hq1 (by decide) (by decide))⟩
        · obtain ⟨cs', t', z', hb2, _⟩ := hty k hk
          exact .inr ⟨_, _, _, hb2⟩
        · obtain ⟨cs', t', z', hb2, h3⟩ := hty k hk
          refine ⟨_, _, _, hb2, ?_⟩
          rcases h3 with rfl | rfl
          · exact ⟨by decide, by decide⟩
          · exact ⟨by decide, by decide⟩
        · rcases hk with rfl | hk
          · rfl
          · have := (hRd.ss.own.lt i hk).1
            omega
      have HH := Lib.hid (And.intro hFW (And.intro hnx (And.intro hnp hpre)))
      rw [hnp] at xp
      clear hFW hnx hq0 hq1 hRd hgb hwl hfr hcW hstk hpl hpre
      rw [hnp]
      clear hnp
      gi_wp2_with fail
      refine ⟨trivial, ?_⟩
      gi_at_call 18
      refine (CallsIn.inRound l (callsIn_wide.2 hst)).mono ?_
      intro e X1 hpost
      cases hR : stepA l0 (w0' :: wr') L with
      | error er =>
        rw [hR] at hpost
        obtain ⟨h0, rfl, hc⟩ := hpost
        have y1 : (er != 0) = true := by simpa using h0
        have hpr := HH.out.2.1.1 er hR
        have t3 := (hc.cell (p := ⟨g, s + 2, none⟩) hgW (fun e => e)).trans t2
        have jg1 : Old g X1 := ⟨Nat.lt_of_lt_of_le hgW hc.size⟩
        have hall := HH.out.1 X1 (hc.mono (fun _ _ h => h.elim))
        have HF := Lib.hid (And.intro hall hpr)
        clear hall hpr hc t2 hst h0 hR
        gi_wp2
        exact ⟨rfl, HF.out.1.1, er, no, HF.out.2, rfl, HF.out.1.2.2.1⟩
      | ok L' =>
        rw [hR] at hpost
        obtain ⟨rfl, hc, gs', vs', hRd'⟩ := hpost
        have hpr := HH.out.2.1.2 L' hR
        have hall := HH.out.1 X1 hc
        have HF := Lib.hid (And.intro hall (And.intro hpr hRd'))
        clear hall hpr hc t2 hst hR hRd'
        gi_wp2
        exact ⟨HF.out.1.1, HF.out.1.2.1, HF.out.1.2.2.1, HF.out.1.2.2.2.1, .inr ⟨by simp, HF.out.1.2.2.2.2, b, l0, f, L', gs', vs', by rw [List.length_append]; exact HF.out.2.1, HF.out.2.2⟩⟩
  case done =>
    intro D xs W hD hS hi hdef
    obtain ⟨hcW, hq0, hst⟩ := hi
    refine hK _ _ (wpE_of_wpIn ?_)
    have hgr := grownBy_putObj' W D (.deferred none)
    have hcD : Chg (fun k => k = D) W (W.putObj D (.deferred none)) := (Chg.of_grown hgr).mono fun j _ e => by cases e; rfl
    have hcw : Chg (fun k => k = p) w (W.putObj D (.deferred none)) := hcW.trans hcD fun i hi e => by omega
    have hDp : ¬ D = w.heap.size + 1 := by omega
    rcases hst with ⟨rfl, hq1, hrd⟩ | ⟨hpre, hq1, b, l0, f, L, gs, vs, hstk, hRd⟩
    · have a1 : W.cell? ⟨w.heap.size + 1, 0, none⟩ = some (.bool false) := (cell_of_row _ _ _ _ _ _ hq1).trans rfl
      have hpr : parseRows (full rows) = .error (200, 0) := by
        have : full rows = [] := List.eq_nil_of_length_eq_zero hS.symm
        rw [this]
        rfl
      rw [hpr]
      have HE := Lib.hid (And.intro hdef hcw)
      clear hdef hcw hcD hgr hq0 hq1 hrd hcW hS hpr hK
      gi_wp2
      refine ⟨by simp, .inl ⟨_, _, rfl, run_takeDeferred HE.out.1, ?_⟩⟩
      exact ⟨HE.out.2, rfl⟩
    · have a1 : W.cell? ⟨w.heap.size + 1, 0, none⟩ = some (.bool true) := (cell_of_row _ _ _ _ _ _ hq1).trans rfl
      have hpr : parseRows (full rows) = .ok (b, f, L) := StK.end (by rw [← hS]; exact hstk)
      have hRd2 : RdIs (W.putObj D (.deferred none)) p w.heap.size b f l0 L gs vs := hRd.far hcD fun k e => by
        subst e
        exact .inr ⟨_, hdef, fun _ _ _ e => (by cases e), fun _ _ e => (by cases e)⟩
      rw [hpr]
      have HE := Lib.hid (And.intro hdef (And.intro hcw hRd2))
      clear hdef hcw hcD hgr hq0 hq1 hcW hS hpr hK hRd hRd2 hstk
      gi_wp2
      refine ⟨by simp, .inl ⟨_, _, rfl, run_takeDeferred HE.out.1, ?_⟩⟩
      refine ⟨.tuple #[], by simp [results, Tryd.results10, go_sem], ?_⟩
      exact ⟨HE.out.2.1, rfl, l0, gs, vs, HE.out.2.2⟩
  case pan =>
    intro D ch pre W hD _ hp2 hdef
    obtain ⟨er, no, hpr, rfl, hcW⟩ := hp2
    have hgr := grownBy_putObj' W D (.deferred none)
    have hcD : Chg (fun k => k = D) W (W.putObj D (.deferred none)) := (Chg.of_grown hgr).mono fun j _ e => by cases e; rfl
    have hcw : Chg (fun k => k = p) w (W.putObj D (.deferred none)) := hcW.trans hcD fun i hi e => by omega
    rw [hpr]
    refine ⟨by simp, .inl ⟨_, _, rfl, run_takeDeferred hdef, ?_⟩⟩
    exact ⟨hcw, rfl⟩
  case stop =>
    intro D c' pre W _ _ h _
    exact h.elim
end Go.Proofs.YtkamjhhaghkdmaaDoor
