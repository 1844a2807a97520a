/- script.lines: the lines that have words, handed over. -/
import Derived.Test.YtkamjhhaghkdmaaDoorH34
import Derived.Test.YtkamjhhaghkdmaaDoorH35
import Derived.Shelf.Abstract
import Derived.Shelf.RegionOpen
import Derived.OwnWalkIn
import Derived.TacticsInMore
import Derived.LoopNIn
import Derived.LoopIn
namespace Go.Proofs.YtkamjhhaghkdmaaDoor
open Go.RowKit Go.Ear Go.Shelf
attribute [local go_sem] Oper.semAt_some
set_option maxHeartbeats 4000000
set_option maxRecDepth 100000
set_option linter.unusedSimpArgs false
set_option linter.unusedVariables false
/-- What is handed over: the line's place, its words. -/
structure Ln where
  i : Nat
  v : Value
def Ln.enc (x : Ln) : Array Value := #[.int .i64 (x.i : Int), x.v]
/-- What is known of a line when it is handed over. -/
def LnGave (n0 : Nat) (fr : List (Nat × List Wd)) (pre : List Ln) (x : Ln) (W : World) : Prop := x.i = pre.length ∧ ∃ no ws, fr[x.i]? = some (no, ws) ∧ ∃ g s cs z, x.v = .slice (some ⟨g, s * 4, none⟩) ws.length ws.length ∧ n0 ≤ g ∧ W.heap[g]? = some (.cells cs 33 z) ∧ (∀ i u, (flT (ws.map fun y => (no, y)))[i]? = some u → W.cell? ⟨g, s * 4 + i, none⟩ = some u)
/-- What a round keeps: words, and slices of words. -/
def KpL (n0 : Nat) (A B : World) : Prop := A.heap.size ≤ B.heap.size ∧ ∀ k cs z, n0 ≤ k → (A.heap[k]? = some (.cells cs 33 z) ∨ A.heap[k]? = some (.cells cs 29 z)) → B.heap[k]? = A.heap[k]?
theorem KpL.trans {n0 : Nat} {A B C : World} (h : KpL n0 A B) (k : KpL n0 B C) : KpL n0 A C :=
  ⟨Nat.le_trans h.1 k.1, fun i cs z hi hc => by
    have e := h.2 i cs z hi hc
    exact (k.2 i cs z hi (by rw [e]; exact hc)).trans e⟩
theorem KpL.chg {n0 : Nat} {A B : World} (h : Chg Noth A B) : KpL n0 A B := ⟨h.size, fun k cs z _ hc => h.block k (by rcases hc with hc | hc <;> exact (Array.getElem?_eq_some_iff.1 hc).1) (fun e => e)⟩
theorem own_kpl {n0 : Nat} {A B : World} {base n sz : Nat} {e : TypeId} {v : Value} {xs : List Value} (h : A.ownsRow base e sz v n xs) (hk : KpL n0 A B) (hb : n0 ≤ base) (he : e = 33 ∨ e = 29) : B.ownsRow base e sz v n xs := by
  refine own_kept h fun k hv => ?_
  rcases h.2 with ⟨rfl, _⟩ | ⟨g, cap, cur, rfl, hbg, hg, _⟩
  · simp [Value.ownBlock] at hv
  · simp [Value.ownBlock] at hv
    subst hv
    exact hk.2 g cur (0, 0) (by omega) (by rcases he with rfl | rfl; exact .inl hg; exact .inr hg)
theorem lines_fn (A : Option Addr) (n c : Nat) (w : World) : Calls Tryd.prog 17 #[.slice A n c] w (fun e w' => e = .returned (.func (.func 28) #[] #[.pointer (some ⟨w.heap.size, 0, none⟩)]) ∧ w' = w.alloc (.cells #[.slice A n c] 29)) := by
  have hmf : ∀ (fn : Fn) (first cap : Array Value) (w : World), (Instr.makeFunc fn first cap).run Tryd.prog w = .ok (.func fn first cap) w := fun _ _ _ _ => rfl
  go_enter Tryd.func17, Tryd.ntmps17
  go_wp2_with fail
  go_ret
  exact ⟨rfl, rfl⟩
theorem pos_len : ∀ (i : Nat) (fr : List (Nat × List Wd)), (pos i fr).length = fr.length
  | _, [] => rfl
  | i, (_, ws) :: r => by simp [pos, pos_len]
theorem flT_part (l : List (Nat × Wd)) (s n : Nat) (hn : s + n ≤ l.length) (i : Nat) (hi : i < n * 4) : (flT l)[s * 4 + i]? = (flT ((l.drop s).take n))[i]? := by
  have e1 : l = l.take s ++ ((l.drop s).take n ++ (l.drop s).drop n) := by rw [List.take_append_drop, List.take_append_drop]
  have e2 : (flT (l.take s)).length = s * 4 := by rw [flT_len]; simp; omega
  have e3 : (flT ((l.drop s).take n)).length = n * 4 := by rw [flT_len]; simp; omega
  conv => lhs; rw [e1, flT_append, flT_append]
  rw [List.getElem?_append_right (by omega), e2, List.getElem?_append_left (by omega)]
  congr 1
  omega
theorem full_le : ∀ (rows : List (Nat × List Wd × Nat)), (full rows).length ≤ (toks rows).length
  | [] => by simp [full, toks]
  | r :: rows => by
    have ih := full_le rows
    rw [full_cons, toks_cons]
    by_cases he : r.2.1.isEmpty = true
    · rw [if_pos he, if_pos he, List.nil_append]; exact ih
    · rw [if_neg he, if_neg he]; simp; omega
theorem lines1_in (n : Nat) (hn : 1 ≤ n) (l Bs n0 : Nat) (v : Value) (rows : List (Nat × List Wd × Nat)) (hk : ∀ r ∈ rows, ∀ x ∈ r.2.1, x.kind ≠ 1) (hlen : (toks rows).length ≤ 5000000000)
    (J Jx : List Ln → World → Prop) (Jp : List PanicEntry → List Ln → World → Prop) (hJ : GrowsOnly J)
    (hY : ∀ pre x W, J pre W → LnGave n0 (full rows) pre x W → pre.length < (full rows).length → YieldAt Fence.wide (n - 1) Tryd.prog l x.enc W fun e W' =>
      (e = .returned (.bool true) ∧ J (pre ++ [x]) W' ∧ KpL n0 W W') ∨ (e = .returned (.bool false) ∧ Jx (pre ++ [x]) W') ∨ (∃ ch, e = .panicked ch ∧ Jp ch (pre ++ [x]) W'))
    (W : World) (hW : n0 ≤ W.heap.size) (hb : W.cell? ⟨Bs, 0, none⟩ = some v) (hBs : Bs < W.heap.size) (hs : SL W v (toks rows).length 4 (flT (toks rows))) (h0 : J [] W) :
    CallsIn Fence.wide n Tryd.prog 28 #[.func (.yield l) #[] #[], .pointer (some ⟨Bs, 0, none⟩)] W fun e W' => ((∃ v, e = .returned v) ∧
      ((∃ xs, xs.length = (full rows).length ∧ J xs W') ∨ (∃ pre, pre.length ≤ (full rows).length ∧ Jx pre W'))) ∨ (∃ ch pre, e = .panicked ch ∧ pre.length ≤ (full rows).length ∧ Jp ch pre W') := by
  obtain ⟨_, Av, cv, rfl, _⟩ := id hs
  have hst := segs_toks rows 0 [] hk
  have hli := lines_any _ (toks rows) W hs hlen hst.2
  rw [hst.1, List.nil_append] at hli
  have jB : Old Bs W := ⟨hBs⟩
  have HJ := Lib.hid h0
  have hNb : (full rows).length ≤ 5000000000 := Nat.le_trans (full_le rows) hlen
  have hpl := pos_len 0 (full rows)
  obtain ⟨N, hN⟩ : ∃ N, (full rows).length = N := ⟨_, rfl⟩
  rw [hN] at hpl hY hNb ⊢
  rw [hpl] at hli
  have HN := Lib.hid (And.intro hNb (And.intro hpl hN))
  clear hNb hpl hN
  clear hst hs h0
  refine callsIn_of_wp Tryd.func28 rfl trivial ?_
  simp only [Tryd.ntmps28, List.size_toArray, List.length_cons, List.length_nil, Nat.reduceAdd, Nat.reduceSub, Array.replicate_succ, Array.replicate_zero, List.push_toArray, List.append_toArray, List.nil_append, List.cons_append]
  gi_wp2_with (refine ⟨trivial, ?_⟩; gi_at_call 29; refine (callsIn_wide.2 hli).mono ?_; rintro e X ⟨A, g, c, v2, rfl, cX, hall, hA, hout⟩; obtain ⟨A2, c2, rfl⟩ := own_shape hout)
  have HX := Lib.hid (And.intro cX (And.intro hall (And.intro hA hout)))
  clear hall hA hout hli hb
  gi_loopw [8] (fun i8 wr => ∃ (k : Nat) (pre : List Ln), k ≤ N ∧ i8 = .int .i64 k ∧ pre.length = k ∧ J pre wr ∧ n0 ≤ wr.heap.size ∧ wr.ownsRow W.heap.size 33 4 (.slice A (toks rows).length c) (toks rows).length (flT (toks rows)) ∧ wr.ownsRow W.heap.size 29 1 (.slice A2 N c2) N (segV g (pos 0 (full rows)))) (fun i8 wr => N - (intOf i8).toNat)
  case atStart =>
    have hX := HX.out
    exact ⟨0, [], Nat.zero_le _, rfl, rfl, hJ _ _ _ HJ.out ⟨hX.1.os, hX.1.tape, hX.1.output, hX.1.size, fun k hk _ => hX.1.block k hk (fun e => e)⟩, by have := hX.1.size; omega, hX.2.1, hX.2.2.2⟩
  case round =>
    obtain ⟨k, pre, hk, rfl, hpre, hJs, hsz, hall, hout⟩ := hrel
    by_cases hlt : k < N
    · have hX := HX.out
      have hN := HN.out
      have hkl : k < (full rows).length := by omega
      obtain ⟨⟨no, ws⟩, hfr⟩ : ∃ r, (full rows)[k]? = some r := ⟨_, List.getElem?_eq_getElem hkl⟩
      obtain ⟨s, hp, _, hsl, htk⟩ := pos_at rows 0 k no ws hfr
      rw [Nat.sub_zero] at hsl htk
      have h0 : 0 < (toks rows).length := by have := full_le rows; omega
      obtain rfl := hX.2.2.1 h0
      obtain ⟨g2, cap2, e2, _, hg2⟩ := hout.form (by omega)
      simp only [Value.slice.injEq, true_and] at e2
      obtain ⟨rfl, rfl⟩ := e2
      have y0 : wr.cell? ⟨g2, k, none⟩ = some (.slice (some ⟨g, s * 4, none⟩) ws.length ws.length) := by
        have h1 := hout.cellAt k (by omega)
        rw [h1]
        simp [segV, hp]
      have j2 : Old g2 wr := ⟨hg2⟩
      have gi : (k : Int) < (N : Int) := by omega
      have g0 : (0 : Int) ≤ (k : Int) := by omega
      have x1 : decide (k < N) = true := decide_eq_true hlt
      have hnb : N ≤ 5000000000 := hN.1
      obtain ⟨k1, hk1⟩ : ∃ k1, k + 1 = k1 := ⟨_, rfl⟩
      have wk : wrap64 ((k : Int) + 1) = (k1 : Int) := by rw [wid] <;> omega
      have hbd : ∀ i, i < ws.length * 4 → s * 4 + i < (toks rows).length * 4 := fun i hi => by clear hlen hnb; omega
      have hY1 : ∀ X, Chg Noth wr X → YieldAt Fence.wide (n - 1) Tryd.prog l #[.int .i64 (k : Int), .slice (some ⟨g, s * 4, none⟩) ws.length ws.length] X fun e W' => (e = .returned (.bool true) ∧ J (pre ++ [⟨k, .slice (some ⟨g, s * 4, none⟩) ws.length ws.length⟩]) W' ∧ KpL n0 X W') ∨ (e = .returned (.bool false) ∧ Jx (pre ++ [⟨k, .slice (some ⟨g, s * 4, none⟩) ws.length ws.length⟩]) W') ∨ (∃ ch, e = .panicked ch ∧ Jp ch (pre ++ [⟨k, .slice (some ⟨g, s * 4, none⟩) ws.length ws.length⟩]) W') := by
        intro X1 hc
        have hall1 := own_chg hall hc (fun _ _ e => e)
        have hG : wr.grownBy X1 none := ⟨hc.os, hc.tape, hc.output, hc.size, fun k hk _ => hc.block k hk (fun e => e)⟩
        refine hY pre ⟨k, _⟩ X1 (hJ _ _ _ hJs hG) ⟨hpre.symm, no, ws, hfr, ?_⟩ (by rw [hpre]; exact hlt)
        rcases id hall1.2 with ⟨e, e0⟩ | ⟨g', cap, cur, e, hbg, hgc, _⟩
        · cases e
        · simp only [Value.slice.injEq, Option.some.injEq, Addr.mk.injEq, true_and, and_true] at e
          obtain ⟨rfl, rfl⟩ := e
          refine ⟨g, s, cur, _, rfl, Nat.le_trans hW hbg, hgc, fun i u hu => ?_⟩
          have hi : i < ws.length * 4 := by
            have := (List.getElem?_eq_some_iff.1 hu).1
            rw [flT_len, List.length_map] at this
            exact this
          have h1 := flT_part (toks rows) s ws.length hsl i hi
          rw [htk, hu] at h1
          exact (hall1.cellAt _ (hbd i hi)).trans h1
      have HK1 := Lib.hid hk1
      have HR := Lib.hid (And.intro hk (And.intro hpre (And.intro hJs (And.intro hsz (And.intro hall (And.intro hout hlt))))))
      clear hk1 hk hpre hJs hsz hall hout hlt hX hN hkl hfr hp hsl htk h0 hnb
      obtain ⟨fn, tmps, assign, body, hy, hR⟩ := hY1 wr (Chg.refl _ _)
      clear hY1
      gi_wp2
      try rw [hy]
      try gi_wp2
      refine hR.mono ?_
      rintro e W3 (⟨rfl, hJ4, hk4⟩ | ⟨rfl, hJx⟩ | ⟨ch, rfl, hJp⟩)
      · gi_wp2
        go_roundw
        case rel =>
          have h := HR.out
          have hk1 := HK1.out
          subst hk1
          exact ⟨k + 1, pre ++ [⟨k, _⟩], h.2.2.2.2.2.2, by rw [wk], by rw [List.length_append, h.2.1]; rfl, hJ4, Nat.le_trans h.2.2.2.1 hk4.1, own_kpl h.2.2.2.2.1 hk4 hW (.inl rfl), own_kpl h.2.2.2.2.2.1 hk4 hW (.inr rfl)⟩
        case measure =>
          have h := HR.out.2.2.2.2.2.2
          have hk1 := HK1.out
          rw [wk]
          clear hlen
          simp [intOf]
          omega
      · gi_wp2
        refine bodyPost_ret (results_none rfl _ _ _) rfl ?_
        have h := HR.out
        exact .inl ⟨⟨_, rfl⟩, .inr ⟨_, by rw [List.length_append, h.2.1]; exact h.2.2.2.2.2.2, hJx⟩⟩
      · gi_wp2
        have h := HR.out
        refine ⟨rfl, ?_⟩
        exact .inr ⟨ch, _, rfl, by rw [List.length_append, h.2.1]; exact h.2.2.2.2.2.2, hJp⟩
    · obtain rfl : k = N := by omega
      have x1 : decide (k < k) = false := decide_eq_false (by omega)
      have HP := Lib.hid (And.intro hpre hJs)
      clear hpre hJs hall hout hlt hk
      gi_wp2
      go_end0
      exact .inl ⟨⟨_, rfl⟩, .inl ⟨pre, HP.out.1, HP.out.2⟩⟩
theorem KpL.put {n0 : Nat} {W : World} {l : Nat} {o o' : Obj} (ho : W.heap[l]? = some o) (hc : o.isCells = false) : KpL n0 W (W.putObj l o') := by
  have hg := grownBy_putObj' W l o'
  refine ⟨hg.size, fun k cs z _ hcs => hg.block k (by rcases hcs with h | h <;> exact (Array.getElem?_eq_some_iff.1 h).1) fun e => ?_⟩
  cases e
  rcases hcs with h | h <;> (rw [ho] at h; cases h; cases hc)
theorem lnGave_own (n0 : Nat) (fr : List (Nat × List Wd)) (b : Nat) (pre : List Ln) (x : Ln) : OwnFrom b (fun (_ : Unit) W => LnGave n0 fr pre x W) := fun _ A B _ hs hg hr => by
  obtain ⟨h1, no, ws, h2, g, s, cs, z, h3, h4, h5, h6⟩ := hs
  have hk : B.heap[g]? = A.heap[g]? := hg.block g (Array.getElem?_eq_some_iff.1 h5).1 fun e => by
    obtain ⟨_, o, ho, hc⟩ := hr g e.symm
    rw [h5] at ho
    cases ho
    cases hc
  exact ⟨h1, no, ws, h2, g, s, cs, z, h3, h4, hk.trans h5, fun i u hu => (World.cell?_of_block hk).trans (h6 i u hu)⟩
/-- The iterator's word. -/
theorem lines_givenQ (n : Nat) (hn : 1 ≤ n) (Bs : Nat) (v : Value) (t : TypeId) (z : Nat × Nat) (rows : List (Nat × List Wd × Nat)) (hk : ∀ r ∈ rows, ∀ x ∈ r.2.1, x.kind ≠ 1) (hlen : (toks rows).length ≤ 5000000000) (w : World) (hb : w.heap[Bs]? = some (.cells #[v] t z)) (hs : SL w v (toks rows).length 4 (flT (toks rows))) :
    SeqGivenQ Fence.wide n Tryd.prog 28 #[.pointer (some ⟨Bs, 0, none⟩)] Ln.enc (KpL w.heap.size) (LnGave w.heap.size (full rows)) (fun xs _ => xs.length = (full rows).length) (fun pre => pre.length ≤ (full rows).length) (full rows).length w := fun l J Jx Jp W hW hJ _ hY h0 => by
  have hB := (Array.getElem?_eq_some_iff.1 hb).1
  have hb' := ((Chg.of_below (F := Noth) hW).block Bs hB (fun e => e)).trans hb
  refine lines1_in n hn l Bs w.heap.size v rows hk hlen J Jx Jp hJ hY W hW.size ?_ (Nat.lt_of_lt_of_le hB hW.size) (hs.grow (Chg.of_below (F := Noth) hW)) h0
  rw [cell_of_row _ _ 0 _ _ _ hb']
  rfl
end Go.Proofs.YtkamjhhaghkdmaaDoor
