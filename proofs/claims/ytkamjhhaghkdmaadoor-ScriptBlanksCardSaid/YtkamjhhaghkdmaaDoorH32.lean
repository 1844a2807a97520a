/- The words of a text: the walk. -/
import Derived.Test.YtkamjhhaghkdmaaDoorH29
import Derived.Test.YtkamjhhaghkdmaaDoorH30
import Derived.Test.YtkamjhhaghkdmaaDoorH31
import Derived.Maps.OwnIn
namespace Go.Ear
/-- The cells of the words. -/
def flT (l : List (Nat × Wd)) : List Value := l.flatMap fun x => tv x.1 x.2
theorem flT_append (a b : List (Nat × Wd)) : flT (a ++ b) = flT a ++ flT b := by simp [flT]
theorem flT_len (l : List (Nat × Wd)) : (flT l).length = l.length * 4 := by
  induction l with
  | nil => rfl
  | cons x l ih => rw [show flT (x :: l) = tv x.1 x.2 ++ flT l from rfl, List.length_append, ih]; simp [tv]; omega
end Go.Ear
namespace Go.Proofs.YtkamjhhaghkdmaaDoor
open Go.RowKit Go.Ear Go.Proofs.YtkamjhhaghkdmaaDoorW.PrintWords Go.Proofs.YtkamjhhaghkdmaaDoor.PScriptLines
attribute [local go_sem] Oper.semAt_some
set_option maxHeartbeats 4000000
set_option maxRecDepth 100000
set_option linter.unusedSimpArgs false
set_option linter.unusedVariables false
theorem cloneT_any (s : ByteArray) (w : World) (hs : s.size ≤ 100000000000) : Calls Tryd.prog 13 #[.string s] w (Gc (.string s) w) := by
  have hc := Tryd.stringslite_Clone s w (by omega)
  go_enter Tryd.func13, Tryd.ntmps13
  go_wp2_with (go_at_call 27; refine hc.mono ?_; rintro e w' ⟨rfl, hb⟩)
  go_ret
  exact ⟨rfl, Chg.of_below hb⟩
/-- Between two rounds. -/
structure SSt (w : World) (n0 : Nat) (t : ByteArray) (pre : List ByteArray) (W : World) : Prop where
  sz : n0 ≤ W.heap.size
  chg : Chg Noth w W
  r2 : W.heap[w.heap.size]? = some (.cells #[.slice none 0 0] 29 (0, 0))
  r3 : W.heap[w.heap.size + 1]? = some (.cells #[.int .i64 0] 25 (0, 0))
  r4 : W.heap[w.heap.size + 1 + 1]? = some (.cells #[.int .i64 0] 3 (0, 0))
  r5 : W.heap[w.heap.size + 1 + 1 + 1]? = some (.cells #[.int .i64 0] 3 (0, 0))
  no : W.heap[w.heap.size + 1 + 1 + 1 + 1 + 1]? = some (.cells #[.int .i64 (pre.length : Int)] 3 (0, 0))
  out : ∃ rows v, scanB pre = .ok rows ∧ W.heap[w.heap.size + 1 + 1 + 1 + 1]? = some (.cells #[v] 29 (0, 0)) ∧ W.ownsRow n0 33 4 v (toks rows).length (flT (toks rows)) ∧ (toks rows).length ≤ pre.length * 70000
theorem keepsG {n0 : Nat} {F : Nat → Prop} {W W' : World} (h : Chg F W W') (hF : ∀ k, F k → k < n0 ∨ ∃ cs t fr, W.heap[k]? = some (.cells cs t fr)) : KeepsFrom n0 W W' :=
  ⟨h.size, fun k o hk ho hc => (h.block k (Array.getElem?_eq_some_iff.1 ho).1 fun hf => by
    rcases hF k hf with h1 | ⟨cs, t, fr, h1⟩
    · omega
    · rw [ho] at h1
      cases h1
      cases hc).trans ho⟩
/-- Within a round. -/
structure ISt (w : World) (n0 b ln : Nat) (x : ByteArray) (p c : Nat) (v : Value) (ws : List Wd) (W0 : World) (tl : List (Nat × Wd)) (v2 : Value) (W : World) : Prop where
  sz : n0 ≤ W.heap.size
  chg : Chg Noth w W
  keep : KeepsFrom n0 W0 W
  kps : KpS (w.heap.size + 1 + 1 + 1 + 1 + 1 + 1) W0 W
  r2 : W.heap[w.heap.size]? = some (.cells #[.slice none 0 0] 29 (0, 0))
  r3 : W.heap[w.heap.size + 1]? = some (.cells #[.int .i64 0] 25 (0, 0))
  r4 : W.heap[w.heap.size + 1 + 1]? = some (.cells #[.int .i64 0] 3 (0, 0))
  r5 : W.heap[w.heap.size + 1 + 1 + 1]? = some (.cells #[.int .i64 0] 3 (0, 0))
  no : W.heap[w.heap.size + 1 + 1 + 1 + 1 + 1]? = some (.cells #[.int .i64 (ln : Int)] 3 (0, 0))
  line : LineAt W b x p c v
  own : W.ownsRow n0 33 4 v ws.length (fl 0 ws)
  outc : W.heap[w.heap.size + 1 + 1 + 1 + 1]? = some (.cells #[v2] 29 (0, 0))
  out : W.ownsRow n0 33 4 v2 tl.length (flT tl)
  ne : ∀ q, v.ownBlock = some q → v2.ownBlock ≠ some q
  hb : n0 ≤ b
  lo : w.heap.size + 1 + 1 + 1 + 1 + 1 + 1 + 1 + 1 < n0
theorem ISt.grow {w : World} {n0 b ln : Nat} {x : ByteArray} {p c : Nat} {v : Value} {ws : List Wd} {W0 : World} {tl : List (Nat × Wd)} {v2 : Value} {X Y : World} (h : ISt w n0 b ln x p c v ws W0 tl v2 X) (hc : Chg Noth X Y) : ISt w n0 b ln x p c v ws W0 tl v2 Y where
  sz := Nat.le_trans h.sz hc.size
  chg := h.chg.trans hc (fun _ _ e => e)
  keep := h.keep.trans (keepsG hc (fun _ e => e.elim))
  kps := h.kps.trans ⟨hc.size, fun k hk => hc.block k (by have h1 := (Array.getElem?_eq_some_iff.1 h.no).1; have := h.hb; have h3 := (Array.getElem?_eq_some_iff.1 h.line).1; have h4 := h.sz; have h5 := h.lo; omega) (fun e => e)⟩
  r2 := hc.heap_at' h.r2
  r3 := hc.heap_at' h.r3
  r4 := hc.heap_at' h.r4
  r5 := hc.heap_at' h.r5
  no := hc.heap_at' h.no
  line := h.line.grow hc
  own := own_chg h.own hc (fun _ _ e => e)
  outc := hc.heap_at' h.outc
  out := own_chg h.out hc (fun _ _ e => e)
  ne := h.ne
  hb := h.hb
  lo := h.lo
/-- One word more. -/
theorem ISt.push {w : World} {n0 b ln : Nat} {x : ByteArray} {p c : Nat} {v : Value} {ws : List Wd} {W0 : World} {tl : List (Nat × Wd)} {v2 v3 : Value} {X X' w1 : World} (h : ISt w n0 b ln x p c v ws W0 tl v2 X) (hc : Chg Noth X X') (hg : X'.grownBy w1 v2.ownBlock) (y : Wd) (news : List Value) (hn : news = tv ln y)
    (ho : w1.ownsRow n0 33 4 v3 (tl.length + 1) (flT tl ++ news)) (hat : ∀ q, v3.ownBlock = some q → v2.ownBlock = some q ∨ X'.heap.size ≤ q) : ISt w n0 b ln x p c v ws W0 (tl ++ [(ln, y)]) v3 (w1.setCell ⟨w.heap.size + 1 + 1 + 1 + 1, 0, none⟩ v3) := by
  have hlo := h.lo
  have hlt : ∀ k, v2.ownBlock = some k → n0 ≤ k ∧ k < X.heap.size := fun k hk => h.out.lt k hk
  have hc1 : Chg (fun k => v2.ownBlock = some k) X w1 := (hc.mono (fun _ _ e => e.elim)).trans (Chg.of_grown hg) (fun i hi e => e)
  have i1 : May (w.heap.size + 1 + 1 + 1 + 1) (fun k => k = w.heap.size + 1 + 1 + 1 + 1 ∨ v2.ownBlock = some k) X := ⟨.inl (.inl rfl)⟩
  have hc2 : Chg (fun k => k = w.heap.size + 1 + 1 + 1 + 1 ∨ v2.ownBlock = some k) X (w1.setCell ⟨w.heap.size + 1 + 1 + 1 + 1, 0, none⟩ v3) := chg_set (hc1.mono (fun _ _ e => .inr e)) _ _ _
  have far : ∀ k, k < n0 → k ≠ w.heap.size + 1 + 1 + 1 + 1 → ¬ (k = w.heap.size + 1 + 1 + 1 + 1 ∨ v2.ownBlock = some k) := fun k hk hne e => by
    rcases e with e | e
    · exact hne e
    · have := (hlt k e).1; omega
  have hcells : ∀ k, (k = w.heap.size + 1 + 1 + 1 + 1 ∨ v2.ownBlock = some k) → k < n0 ∨ ∃ cs t fr, X.heap[k]? = some (.cells cs t fr) := fun k hk => by
    rcases hk with rfl | hk
    · exact .inl (by omega)
    · right
      rcases h.out.2 with ⟨e, _⟩ | ⟨g, cap, cur, e, _, hb, _⟩
      · rw [e] at hk; simp [Value.ownBlock] at hk
      · rw [e] at hk; simp [Value.ownBlock] at hk; subst hk; exact ⟨_, _, _, hb⟩
  have hln : (tl ++ [(ln, y)]).length = tl.length + 1 := by simp
  have hbw : v2.ownBlock ≠ some b := fun e => Ear.own_ne h.out h.line (by decide) b e rfl
  refine ⟨Nat.le_trans h.sz hc2.size, h.chg.trans hc2 (fun i hi e => (far i (by omega) (by omega) e).elim), h.keep.trans (keepsG hc2 hcells), h.kps.trans ⟨hc2.size, fun k hk => hc2.block k (by have := h.sz; omega) (far k (by omega) (by omega))⟩,
    hc2.heap_at h.r2 (far _ (by omega) (by omega)), hc2.heap_at h.r3 (far _ (by omega) (by omega)), hc2.heap_at h.r4 (far _ (by omega) (by omega)), hc2.heap_at h.r5 (far _ (by omega) (by omega)), hc2.heap_at h.no (far _ (by omega) (by omega)), ?_, ?_, ?_, ?_, ?_, h.hb, h.lo⟩
  · refine hc2.heap_at h.line (fun e => ?_)
    rcases e with e | e
    · have := h.hb; omega
    · exact hbw e
  · refine own_chg h.own hc2 (fun k hk e => ?_)
    rcases e with e | e
    · have := (h.own.lt k hk).1; omega
    · exact h.ne k hk e
  · exact heap_setCell_same _ _ 0 _ _ _ (hc1.heap_at h.outc (fun e => by have := (hlt _ e).1; omega))
  · rw [hln, flT_append, show flT [(ln, y)] = tv ln y by simp [flT], ← hn]
    exact own_kept ho (fun k hk => heap_set_far _ _ _ _ (by have := (ho.lt k hk).1; omega))
  · intro q hq e
    rcases hat q e with e | e
    · exact h.ne q hq e
    · have := (h.own.lt q hq).2
      have := hc.size
      omega
theorem tok_cells {w : World} {base g cap i : Nat} {ws : List Wd} {y : Wd} (h : w.ownsRow base 33 4 (.slice (some ⟨g, 0, none⟩) ws.length cap) ws.length (fl 0 ws)) (hy : ws[i]? = some y) :
    w.cell? ⟨g, i * 4, none⟩ = some (.int .i64 y.kind) ∧ w.cell? ⟨g, i * 4 + 1, none⟩ = some (.string ⟨y.text.toArray⟩) ∧ w.cell? ⟨g, i * 4 + 2, none⟩ = some (.int .i64 0) ∧ w.cell? ⟨g, i * 4 + 3, none⟩ = some (.int .i64 (y.col : Int)) := by
  have hi : i < ws.length := (List.getElem?_eq_some_iff.1 hy).1
  have hfl : ∀ l : List Wd, (fl 0 l).length = l.length * 4 := fun l => by
    induction l with
    | nil => rfl
    | cons a l ih => rw [show fl 0 (a :: l) = tv 0 a ++ fl 0 l from rfl, List.length_append, ih]; simp [tv]; omega
  have e : fl 0 ws = fl 0 (ws.take i) ++ (tv 0 y ++ fl 0 (ws.drop (i + 1))) := by
    have e1 : ws = ws.take i ++ y :: ws.drop (i + 1) := by
      have e2 : ws.drop i = y :: ws.drop (i + 1) := by rw [List.drop_eq_getElem_cons hi, (List.getElem?_eq_some_iff.1 hy).2]
      rw [← e2, List.take_append_drop]
    conv => lhs; rw [e1]
    simp [fl]
  have e1 : (fl 0 (ws.take i)).length = i * 4 := by rw [hfl]; simp; omega
  have e2 : ∀ j, j < 4 → (fl 0 ws)[i * 4 + j]? = (tv 0 y)[j]? := fun j hj => by
    rw [e, List.getElem?_append_right (by omega), e1, List.getElem?_append_left (by simp [tv]; omega)]
    congr 1
    omega
  have e3 : ∀ j, j < 4 → w.cell? ⟨g, i * 4 + j, none⟩ = (tv 0 y)[j]? := fun j hj => (h.cellAt _ (by omega)).trans (e2 j hj)
  exact ⟨e3 0 (by omega), e3 1 (by omega), e3 2 (by omega), e3 3 (by omega)⟩
/-- What Scan answers. -/
def ScanPost (w : World) (R : Except (Int × Nat × Nat) (List (Nat × List Wd × Nat))) : Ending → World → Prop := fun e w' => match R with
  | .error (er, ln, col) => e = .returned (.tuple #[.slice none 0 0, .int .i64 er, .int .i64 (ln : Int), .int .i64 (col : Int)]) ∧ Chg Noth w w'
  | .ok rows => ∃ v, e = .returned (.tuple #[v, .int .i64 0, .int .i64 0, .int .i64 0]) ∧ Chg Noth w w' ∧ w'.ownsRow w.heap.size 33 4 v (toks rows).length (flT (toks rows)) ∧ (toks rows).length ≤ 5000000000
/-- The walk has met an error. -/
def SErr (w : World) (n0 : Nat) (c : Code) (pre : List ByteArray) (W : World) : Prop := c = .ret ∧ Chg Noth w W ∧ n0 ≤ W.heap.size ∧ ∃ (er : Int) (ln col : Nat), (∀ rest, scanB (pre ++ rest) = .error (er, ln, col)) ∧
  W.heap[w.heap.size]? = some (.cells #[.slice none 0 0] 29 (0, 0)) ∧ W.heap[w.heap.size + 1]? = some (.cells #[.int .i64 er] 25 (0, 0)) ∧ W.heap[w.heap.size + 1 + 1]? = some (.cells #[.int .i64 (ln : Int)] 3 (0, 0)) ∧ W.heap[w.heap.size + 1 + 1 + 1]? = some (.cells #[.int .i64 (col : Int)] 3 (0, 0))
theorem blkK {W W' : World} {row : Option Nat} {k : Nat} {cs : Array Value} {t : TypeId} {fr : Nat × Nat} (h : W.heap[k]? = some (.cells cs t fr)) (hg : W.grownBy W' row) (hr : ∀ r, row = some r → ∃ o : Obj, W.heap[r]? = some o ∧ o.isCells = false) : W'.heap[k]? = some (.cells cs t fr) :=
  (hg.block k (Array.getElem?_eq_some_iff.1 h).1 fun e => by
    obtain ⟨o, ho, hc⟩ := hr k e.symm
    rw [h] at ho
    cases ho
    cases hc).trans h
theorem rowK {W W' : World} {row : Option Nat} {base n sz : Nat} {e : TypeId} {v : Value} {xs : List Value} (h : W.ownsRow base e sz v n xs) (hg : W.grownBy W' row) (hr : ∀ r, row = some r → ∃ o : Obj, W.heap[r]? = some o ∧ o.isCells = false) : W'.ownsRow base e sz v n xs := by
  refine own_kept h fun k hk => ?_
  rcases h.2 with ⟨rfl, _⟩ | ⟨g, cap, cur, rfl, _, hb, _⟩
  · simp [Value.ownBlock] at hk
  · simp [Value.ownBlock] at hk
    subst hk
    exact (blkK hb hg hr).trans hb.symm
theorem chgK {w W W' : World} {row : Option Nat} (h : Chg Noth w W) (hg : W.grownBy W' row) (hr : ∀ r, row = some r → w.heap.size ≤ r) : Chg Noth w W' :=
  h.trans (Chg.of_grown hg) fun i hi e => by have := hr i e; omega
theorem sst_own (w : World) (n0 : Nat) (t : ByteArray) (h0 : w.heap.size ≤ n0) : OwnFrom n0 (SSt w n0 t) := fun pre A B row hs hg hr => by
  have hr' : ∀ r, row = some r → ∃ o : Obj, A.heap[r]? = some o ∧ o.isCells = false := fun r e => (hr r e).2
  obtain ⟨rows, v, h1, h2, h3, h4⟩ := hs.out
  exact ⟨Nat.le_trans hs.sz hg.size, chgK hs.chg hg fun r e => by have := (hr r e).1; omega, blkK hs.r2 hg hr', blkK hs.r3 hg hr', blkK hs.r4 hg hr', blkK hs.r5 hg hr', blkK hs.no hg hr', rows, v, h1, blkK h2 hg hr', rowK h3 hg hr', h4⟩
theorem serr_own (w : World) (n0 : Nat) (c : Code) (h0 : w.heap.size ≤ n0) : OwnFrom n0 (SErr w n0 c) := fun pre A B row hs hg hr => by
  have hr' : ∀ r, row = some r → ∃ o : Obj, A.heap[r]? = some o ∧ o.isCells = false := fun r e => (hr r e).2
  obtain ⟨h1, h2, h3, er, ln, col, h4, h5, h6, h7, h8⟩ := hs
  exact ⟨h1, chgK h2 hg fun r e => by have := (hr r e).1; omega, Nat.le_trans h3 hg.size, er, ln, col, h4, blkK h5 hg hr', blkK h6 hg hr', blkK h7 hg hr', blkK h8 hg hr'⟩
theorem sst_mv {w : World} {n0 : Nat} {t : ByteArray} (hn : w.heap.size + 1 + 1 + 1 + 1 + 1 + 1 + 1 + 1 < n0) : ∀ pre A B', SSt w n0 t pre A → MvB (w.heap.size + 1 + 1 + 1 + 1 + 1 + 1) A B' → SSt w n0 t pre B' := fun pre A B' hs ⟨v, hv⟩ => by
  subst hv
  have i1 : May (w.heap.size + 1 + 1 + 1 + 1 + 1 + 1) (fun k => k = w.heap.size + 1 + 1 + 1 + 1 + 1 + 1) A := ⟨.inl rfl⟩
  have hc : Chg (fun k => k = w.heap.size + 1 + 1 + 1 + 1 + 1 + 1) A (A.setCell ⟨w.heap.size + 1 + 1 + 1 + 1 + 1 + 1, 0, none⟩ v) := chg_set (Chg.refl _ _) _ _ _
  obtain ⟨rows, v2, h1, h2, h3, h4⟩ := hs.out
  exact ⟨Nat.le_trans hs.sz hc.size, hs.chg.trans hc (fun i hi e => by omega), hc.heap_at hs.r2 (by omega), hc.heap_at hs.r3 (by omega), hc.heap_at hs.r4 (by omega), hc.heap_at hs.r5 (by omega), hc.heap_at hs.no (by omega), rows, v2, h1, hc.heap_at h2 (by omega), own_chg h3 hc (fun k hk e => by have := (h3.lt k hk).1; omega), h4⟩
theorem serr_mv {w : World} {n0 : Nat} (hn : w.heap.size + 1 + 1 + 1 + 1 + 1 + 1 + 1 + 1 < n0) : ∀ c pre A B', SErr w n0 c pre A → MvB (w.heap.size + 1 + 1 + 1 + 1 + 1 + 1) A B' → SErr w n0 c pre B' := fun c pre A B' hs ⟨v, hv⟩ => by
  subst hv
  have i1 : May (w.heap.size + 1 + 1 + 1 + 1 + 1 + 1) (fun k => k = w.heap.size + 1 + 1 + 1 + 1 + 1 + 1) A := ⟨.inl rfl⟩
  have hc : Chg (fun k => k = w.heap.size + 1 + 1 + 1 + 1 + 1 + 1) A (A.setCell ⟨w.heap.size + 1 + 1 + 1 + 1 + 1 + 1, 0, none⟩ v) := chg_set (Chg.refl _ _) _ _ _
  obtain ⟨h1, h2, h3, er, ln, col, h4, h5, h6, h7, h8⟩ := hs
  exact ⟨h1, h2.trans hc (fun i hi e => by omega), Nat.le_trans h3 hc.size, er, ln, col, h4, hc.heap_at h5 (by omega), hc.heap_at h6 (by omega), hc.heap_at h7 (by omega), hc.heap_at h8 (by omega)⟩
theorem linesB_scan (t : ByteArray) : scanB (linesB t) = scanF 0 (lines t.data.toList) := by
  unfold scanB linesB
  rw [List.map_map]
  congr 1
  conv => rhs; rw [← List.map_id (lines t.data.toList)]
  apply List.map_congr_left
  intro l _
  simp
theorem linesB_each {t x : ByteArray} (h : x ∈ linesB t) : x.size ≤ t.size := by
  unfold linesB at h
  obtain ⟨l, hl, rfl⟩ := List.mem_map.1 h
  have := linesF_each t.data.toList [] l hl
  show l.toArray.size ≤ t.data.size
  simp at this ⊢
  exact this
theorem scan_big (t : ByteArray) (w : World) (h : 65536 < t.size) : Calls Tryd.prog 7 #[.string t] w (ScanPost w (.error (2, 0, 0))) := by
  have x0 : decide ((65536 : Int) < (t.size : Int)) = true := decide_eq_true (by omega)
  clear h
  go_enter Tryd.func7, Tryd.ntmps7
  go_wp2
  refine bodyPost_ret (v := .tuple #[.slice none 0 0, .int .i64 2, .int .i64 0, .int .i64 0]) (by simp [results, Tryd.results7, go_sem]) rfl ?_
  exact ⟨rfl, (by repeat (with_reducible first | exact Chg.refl _ _ | assumption | refine chg_m ?_ _ | refine chg_g ?_ _ | refine chg_alloc ?_ _ | refine chg_drew ?_ | refine chg_drewN ?_ _ | refine chg_set ?_ _ _ _))⟩
theorem heap_hs (W : World) (o : Obj) (n : Nat) [h : HS W n] : (W.alloc o).heap[n]? = some o := by rw [← h.eq]; exact heap_alloc_new W o
theorem scan_any (t : ByteArray) (w : World) : Calls Tryd.prog 7 #[.string t] w (ScanPost w (scan t.data.toList)) := by
  have hnil : ∀ (q r s : Value) (W : World), (binOp .eql 52 (.func (.func 36) #[] #[q, r, s]) .nilFunc).run Tryd.prog W = .ok (.bool false) W := fun _ _ _ _ => by kernel_rfl
  have hsp := split_any t
  have hsz : t.data.toList.length = t.size := by simp
  by_cases hbig : 65536 < t.size
  · have e : scan t.data.toList = .error (2, 0, 0) := by unfold scan; rw [if_pos (by omega)]
    rw [e]
    exact scan_big t w hbig
  have e : scan t.data.toList = scanB (linesB t) := by rw [linesB_scan]; unfold scan; rw [if_neg (by omega)]
  rw [e]
  clear e hsz
  have x0 : decide ((65536 : Int) < (t.size : Int)) = false := decide_eq_false (by omega)
  refine (callsIn_wide (n := 5)).1 ?_
  refine callsIn_of_wp_marks Tryd.func7 rfl trivial ?_ rfl
  simp only [Tryd.ntmps7, List.size_toArray, List.length_cons, List.length_nil, Nat.reduceAdd, Nat.reduceSub, Array.replicate_succ, Array.replicate_zero, List.push_toArray, List.append_toArray, List.nil_append, List.cons_append]
  gi_wp2_with (refine ⟨trivial, ?_⟩; gi_at_call 11; refine (callsIn_wide.2 (hsp _)).mono ?_; rintro e X ⟨rfl, cX, zX, hX⟩)
  simp only [World.size_alloc] at zX hX
  have q2 : X.heap[w.heap.size]? = some (.cells #[.slice none 0 0] 29 (0, 0)) := by
    refine cX.heap_at' ?_
    rw [Below.heap_alloc _ _ _ (by first | (simp; done) | (simp; omega)), Below.heap_alloc _ _ _ (by first | (simp; done) | (simp; omega)), Below.heap_alloc _ _ _ (by first | (simp; done) | (simp; omega)), Below.heap_alloc _ _ _ (by first | (simp; done) | (simp; omega)), Below.heap_alloc _ _ _ (by simp)]
    exact heap_alloc_new _ _
  have q3 : X.heap[w.heap.size + 1]? = some (.cells #[.int .i64 0] 25 (0, 0)) := by
    refine cX.heap_at' ?_
    rw [Below.heap_alloc _ _ _ (by first | (simp; done) | (simp; omega)), Below.heap_alloc _ _ _ (by first | (simp; done) | (simp; omega)), Below.heap_alloc _ _ _ (by first | (simp; done) | (simp; omega)), Below.heap_alloc _ _ _ (by simp)]
    exact heap_hs _ _ _
  have q4 : X.heap[w.heap.size + 1 + 1]? = some (.cells #[.int .i64 0] 3 (0, 0)) := by
    refine cX.heap_at' ?_
    rw [Below.heap_alloc _ _ _ (by first | (simp; done) | (simp; omega)), Below.heap_alloc _ _ _ (by first | (simp; done) | (simp; omega)), Below.heap_alloc _ _ _ (by simp)]
    exact heap_hs _ _ _
  have q5 : X.heap[w.heap.size + 1 + 1 + 1]? = some (.cells #[.int .i64 0] 3 (0, 0)) := by
    refine cX.heap_at' ?_
    rw [Below.heap_alloc _ _ _ (by first | (simp; done) | (simp; omega)), Below.heap_alloc _ _ _ (by simp)]
    exact heap_hs _ _ _
  have q6 : X.heap[w.heap.size + 1 + 1 + 1 + 1]? = some (.cells #[.slice none 0 0] 29 (0, 0)) := by
    refine cX.heap_at' ?_
    rw [Below.heap_alloc _ _ _ (by simp)]
    exact heap_hs _ _ _
  have q7 : X.heap[w.heap.size + 1 + 1 + 1 + 1 + 1]? = some (.cells #[.int .i64 ((([] : List ByteArray).length : Nat) : Int)] 3 (0, 0)) := by
    refine cX.heap_at' ?_
    exact heap_hs _ _ _
  have hC : Chg Noth w X := Chg.trans (by repeat (with_reducible first | exact Chg.refl _ _ | refine chg_m ?_ _ | refine chg_g ?_ _ | refine chg_alloc ?_ _ | refine chg_drew ?_ | refine chg_drewN ?_ _ | refine chg_set ?_ _ _ _)) cX (fun _ _ e => e)
  have hI0 : SSt w X.heap.size t [] X := ⟨Nat.le_refl _, hC, q2, q3, q4, q5, q7, [], _, rfl, q6, World.ownsRow_nil _ _ _ _, Nat.zero_le _⟩
  have HI := Lib.hid hI0
  have hn0 : w.heap.size + 1 + 1 + 1 + 1 + 1 + 1 + 1 + 1 < X.heap.size := by omega
  clear hI0 q2 q3 q4 q5 q6 q7 cX hsp zX
  refine wpIn_range_givenM (F := Fence.wide) (n := 5) rfl (by omega) (gf := 36) (lb := #[.pointer (some ⟨w.heap.size + 1 + 1 + 1 + 1 + 1 + 1 + 1, 0, none⟩), .pointer (some ⟨w.heap.size + 1 + 1 + 1 + 1 + 1 + 1, 0, none⟩), .pointer (some ⟨w.heap.size + 1 + 1 + 1 + 1 + 1 + 1 + 1 + 1, 0, none⟩)]) rfl trivial (enters_of Tryd.func36 (by kernel_rfl) rfl)
    (split_given 4 (by omega) (w.heap.size + 1 + 1 + 1 + 1 + 1 + 1) t (by omega) X hX) (fun A B' k o hM hk ho => by obtain ⟨v, rfl⟩ := hM; exact (heap_set_far _ _ _ _ (by omega)).trans ho) KpS.trans (fun W l o o' hl ho hc _ => ⟨(grownBy_putObj' W l o').size, fun k hk => World.putObj_heap_other (by omega)⟩) (Below.refl _ _) (fun _ => rfl)
    (fun pre x => fun _ _ _ _ hs _ _ => hs) (fun _ _ _ _ hs _ _ => hs) (SSt w X.heap.size t) (SErr w X.heap.size) (sst_own _ _ _ (by omega)) (fun c => serr_own _ _ c (by omega)) (sst_mv hn0) (serr_mv hn0) HI.out
    (fun x a' W => a' = { tmps := #[.string t, undef, .pointer (some ⟨w.heap.size, 0, none⟩), .pointer (some ⟨w.heap.size + 1, 0, none⟩), .pointer (some ⟨w.heap.size + 1 + 1, 0, none⟩), .pointer (some ⟨w.heap.size + 1 + 1 + 1, 0, none⟩), .pointer (some ⟨w.heap.size + 1 + 1 + 1 + 1, 0, none⟩), .pointer (some ⟨w.heap.size + 1 + 1 + 1 + 1 + 1, 0, none⟩), .string x, undef, undef, undef, undef, .string t, .int .i64 (t.size : Int), .bool false, .string t, .func (.func 36) #[] #[.pointer (some ⟨w.heap.size + 1 + 1 + 1 + 1 + 1 + 1 + 1, 0, none⟩), .pointer (some ⟨w.heap.size + 1 + 1 + 1 + 1 + 1 + 1, 0, none⟩), .pointer (some ⟨w.heap.size + 1 + 1 + 1 + 1 + 1 + 1 + 1 + 1, 0, none⟩)], .string x, undef, undef, undef, undef, undef, undef, undef, undef, undef, undef, undef, undef, undef, undef, undef, undef, undef, undef, undef, undef, undef, undef, undef, undef, undef, undef, undef, undef, undef, undef, undef, undef, undef, undef, undef, undef, undef, undef, undef, undef, undef, undef, undef, undef, undef, undef, undef, undef, undef, undef], defers := [] }) ?hAx ?assign ?body ?done ?stop
  case hAx =>
    intro x a' _ A B row hs hg hr
    exact hs
  case assign =>
    intro l pre x W K hi hg hK
    gi_wp2
    exact hK _ _ (KeepsFrom.refl _ _) ⟨Nat.le_refl _, fun _ _ => rfl⟩ hi hg rfl
  case body =>
    rintro l pre x a' W hl _ hi hg rfl hlt
    obtain ⟨rows, v2, hrows, h4, ho4, hlen⟩ := hi.out
    obtain ⟨ln, hln⟩ : ∃ ln, pre.length + 1 = ln := ⟨_, rfl⟩
    have hxl : x.size ≤ t.size := linesB_each (hg.subset (by simp))
    have hll := linesB_len t
    have wn : wrap64 ((pre.length : Int) + 1) = (ln : Int) := by rw [wid] <;> omega
    have HLN := Lib.hid hln
    clear hln
    obtain ⟨np, hnp⟩ : ∃ np, pre.length = np := ⟨_, rfl⟩
    rw [hnp] at wn
    have HNP := Lib.hid hnp
    have hsW := hi.sz
    have n5 : W.cell? ⟨w.heap.size + 1 + 1 + 1 + 1 + 1, 0, none⟩ = some (.int .i64 (np : Int)) := by rw [cell_of_row _ _ 0 _ _ _ (hnp ▸ hi.no)]; rfl
    have f5 : W.frozen? ⟨w.heap.size + 1 + 1 + 1 + 1 + 1, 0, none⟩ = false := frozen_of_row _ _ 0 _ _ hi.no
    have i5 : Old (w.heap.size + 1 + 1 + 1 + 1 + 1) W := ⟨(Array.getElem?_eq_some_iff.1 hi.no).1⟩
    clear hnp
    have iM5 : May (w.heap.size + 1 + 1 + 1 + 1 + 1) (fun k => k = w.heap.size + 1 + 1 + 1 + 1 + 1) W := ⟨.inl rfl⟩
    have hw := words_any W.heap.size x ((W.setCell ⟨w.heap.size + 1 + 1 + 1 + 1 + 1, 0, none⟩ (.int .i64 (ln : Int))).alloc (.cells #[.string x, .int .i64 0, .int .i64 1, .slice none 0 0] 56)) (by have := heap_alloc_new (W.setCell ⟨w.heap.size + 1 + 1 + 1 + 1 + 1, 0, none⟩ (.int .i64 (ln : Int))) (.cells #[.string x, .int .i64 0, .int .i64 1, .slice none 0 0] 56); rw [show (W.setCell ⟨w.heap.size + 1 + 1 + 1 + 1 + 1, 0, none⟩ (.int .i64 (ln : Int))).heap.size = W.heap.size by simp [World.setCell]] at this; exact this) (by omega)
    cases hR : words x with
    | error E =>
      rw [hR] at hw
      obtain ⟨er, ec⟩ := E
      have her := ws_err x _ 0 1 [] er ec rfl (Nat.zero_le _) (by rw [← words_ws]; exact hR)
      have yer : (er != 0) = true := bne_iff_ne.2 (by omega)
      clear her
      gi_wp2_with (refine ⟨trivial, ?_⟩; gi_at_call 12; refine (CallsIn.inRound l (callsIn_wide.2 hw)).mono ?_; rintro e V ⟨rfl, cV, pp, vv, hL⟩)
      have cW : Chg (fun k => k = w.heap.size + 1 + 1 + 1 + 1 + 1) W V := (chg_alloc (chg_set (F := fun k => k = w.heap.size + 1 + 1 + 1 + 1 + 1) (Chg.refl _ _) _ _ _) _).trans cV (fun i hi e => by omega)
      have a2 := cW.heap_at hi.r2 (by omega)
      have a3 := cW.heap_at hi.r3 (by omega)
      have a4 := cW.heap_at hi.r4 (by omega)
      have a5 := cW.heap_at hi.r5 (by omega)
      have a7 : V.heap[w.heap.size + 1 + 1 + 1 + 1 + 1]? = some (.cells #[.int .i64 (ln : Int)] 3 (0, 0)) := (cV.block _ (by simp [World.setCell]; omega) (by omega)).trans ((Below.heap_alloc _ _ _ (by simp [World.setCell]; omega)).trans (heap_setCell_same _ _ 0 _ _ _ hi.no))
      have b2 : V.cell? ⟨w.heap.size, 0, none⟩ = some (.slice none 0 0) := by rw [cell_of_row _ _ 0 _ _ _ a2]; rfl
      have b3 : V.cell? ⟨w.heap.size + 1, 0, none⟩ = some (.int .i64 0) := by rw [cell_of_row _ _ 0 _ _ _ a3]; rfl
      have b4 : V.cell? ⟨w.heap.size + 1 + 1, 0, none⟩ = some (.int .i64 0) := by rw [cell_of_row _ _ 0 _ _ _ a4]; rfl
      have b5 : V.cell? ⟨w.heap.size + 1 + 1 + 1, 0, none⟩ = some (.int .i64 0) := by rw [cell_of_row _ _ 0 _ _ _ a5]; rfl
      have b7 : V.cell? ⟨w.heap.size + 1 + 1 + 1 + 1 + 1, 0, none⟩ = some (.int .i64 (ln : Int)) := by rw [cell_of_row _ _ 0 _ _ _ a7]; rfl
      have bl : V.cell? ⟨W.heap.size, 2, none⟩ = some (.int .i64 (ec : Int)) := by rw [cell_of_row _ _ 2 _ _ _ hL]; rfl
      have d2 : V.frozen? ⟨w.heap.size, 0, none⟩ = false := frozen_of_row _ _ 0 _ _ a2
      have d3 : V.frozen? ⟨w.heap.size + 1, 0, none⟩ = false := frozen_of_row _ _ 0 _ _ a3
      have d4 : V.frozen? ⟨w.heap.size + 1 + 1, 0, none⟩ = false := frozen_of_row _ _ 0 _ _ a4
      have d5 : V.frozen? ⟨w.heap.size + 1 + 1 + 1, 0, none⟩ = false := frozen_of_row _ _ 0 _ _ a5
      have j2 : Old (w.heap.size) V := ⟨(Array.getElem?_eq_some_iff.1 a2).1⟩
      have j3 : Old (w.heap.size + 1) V := ⟨(Array.getElem?_eq_some_iff.1 a3).1⟩
      have j4 : Old (w.heap.size + 1 + 1) V := ⟨(Array.getElem?_eq_some_iff.1 a4).1⟩
      have j5 : Old (w.heap.size + 1 + 1 + 1) V := ⟨(Array.getElem?_eq_some_iff.1 a5).1⟩
      have j7 : Old (w.heap.size + 1 + 1 + 1 + 1 + 1) V := ⟨(Array.getElem?_eq_some_iff.1 a7).1⟩
      have jl : Old (W.heap.size) V := ⟨(Array.getElem?_eq_some_iff.1 hL).1⟩
      have HA := Lib.hid (And.intro cW (And.intro a2 (And.intro a3 (And.intro a4 a5))))
      have HR := Lib.hid (And.intro hR (And.intro hrows hi))
      clear cW a2 a3 a4 a5 a7 cV hR hrows hi hw hL
      have fin : KeepsFrom X.heap.size W ((((V.setCell ⟨w.heap.size, 0, none⟩ (.slice none 0 0)).setCell ⟨w.heap.size + 1, 0, none⟩ (.int .i64 er)).setCell ⟨w.heap.size + 1 + 1, 0, none⟩ (.int .i64 (ln : Int))).setCell ⟨w.heap.size + 1 + 1 + 1, 0, none⟩ (.int .i64 (ec : Int))).drew ∧ SErr w X.heap.size .ret (pre ++ [x]) ((((V.setCell ⟨w.heap.size, 0, none⟩ (.slice none 0 0)).setCell ⟨w.heap.size + 1, 0, none⟩ (.int .i64 er)).setCell ⟨w.heap.size + 1 + 1, 0, none⟩ (.int .i64 (ln : Int))).setCell ⟨w.heap.size + 1 + 1 + 1, 0, none⟩ (.int .i64 (ec : Int))).drew := by
        have hc : Chg (fun k => w.heap.size ≤ k ∧ k ≤ w.heap.size + 1 + 1 + 1) V ((((V.setCell ⟨w.heap.size, 0, none⟩ (.slice none 0 0)).setCell ⟨w.heap.size + 1, 0, none⟩ (.int .i64 er)).setCell ⟨w.heap.size + 1 + 1, 0, none⟩ (.int .i64 (ln : Int))).setCell ⟨w.heap.size + 1 + 1 + 1, 0, none⟩ (.int .i64 (ec : Int))).drew := by
          have i0 : May (w.heap.size) (fun k => w.heap.size ≤ k ∧ k ≤ w.heap.size + 1 + 1 + 1) V := ⟨.inl ⟨by omega, by omega⟩⟩
          have i1 : May (w.heap.size + 1) (fun k => w.heap.size ≤ k ∧ k ≤ w.heap.size + 1 + 1 + 1) V := ⟨.inl ⟨by omega, by omega⟩⟩
          have i2 : May (w.heap.size + 1 + 1) (fun k => w.heap.size ≤ k ∧ k ≤ w.heap.size + 1 + 1 + 1) V := ⟨.inl ⟨by omega, by omega⟩⟩
          have i3 : May (w.heap.size + 1 + 1 + 1) (fun k => w.heap.size ≤ k ∧ k ≤ w.heap.size + 1 + 1 + 1) V := ⟨.inl ⟨by omega, by omega⟩⟩
          exact chg_drew (chg_set (chg_set (chg_set (chg_set (Chg.refl _ _) _ _ _) _ _ _) _ _ _) _ _ _)
        have hW := HA.out.1.trans (G := fun k => w.heap.size ≤ k ∧ k ≤ w.heap.size + 1 + 1 + 1) hc
        have hWc : Chg (fun k => k = w.heap.size + 1 + 1 + 1 + 1 + 1 ∨ (w.heap.size ≤ k ∧ k ≤ w.heap.size + 1 + 1 + 1)) W ((((V.setCell ⟨w.heap.size, 0, none⟩ (.slice none 0 0)).setCell ⟨w.heap.size + 1, 0, none⟩ (.int .i64 er)).setCell ⟨w.heap.size + 1 + 1, 0, none⟩ (.int .i64 (ln : Int))).setCell ⟨w.heap.size + 1 + 1 + 1, 0, none⟩ (.int .i64 (ec : Int))).drew := (HA.out.1.mono (fun _ _ e => .inl e)).trans hc (fun _ _ e => .inr e)
        refine ⟨keepsG hWc (fun k hk => .inl (by omega)), rfl, HR.out.2.2.chg.trans hWc (fun k hk e => by omega), Nat.le_trans HR.out.2.2.sz hWc.size, er, ln, ec, fun rest => ?_, ?_, ?_, ?_, ?_⟩
        · rw [List.append_assoc]
          rw [← HLN.out]
          exact scanB_err rest HR.out.2.1 HR.out.1
        · rw [heap_drew_eq, heap_set_far _ _ _ _ (by omega), heap_set_far _ _ _ _ (by omega), heap_set_far _ _ _ _ (by omega)]
          exact heap_setCell_same _ _ 0 _ _ _ HA.out.2.1
        · rw [heap_drew_eq, heap_set_far _ _ _ _ (by omega), heap_set_far _ _ _ _ (by omega)]
          exact heap_setCell_same _ _ 0 _ _ _ ((heap_set_far _ _ _ _ (by omega)).trans HA.out.2.2.1)
        · rw [heap_drew_eq, heap_set_far _ _ _ _ (by omega)]
          exact heap_setCell_same _ _ 0 _ _ _ ((heap_set_far _ _ _ _ (by omega)).trans ((heap_set_far _ _ _ _ (by omega)).trans HA.out.2.2.2.1))
        · rw [heap_drew_eq]
          exact heap_setCell_same _ _ 0 _ _ _ ((heap_set_far _ _ _ _ (by omega)).trans ((heap_set_far _ _ _ _ (by omega)).trans ((heap_set_far _ _ _ _ (by omega)).trans HA.out.2.2.2.2)))
      have FIN := Lib.hid fin
      clear fin
      refine wpIn_region_round (by kernel_rfl) (by kernel_rfl) (by rintro ⟨_, _, h⟩; exact h) ?_
      refine wpAny_take (i := 0) (v := ?_) rfl (by kernel_rfl) (by kernel_rfl) (by kernel_rfl) (fun _ _ _ h => h) (Or.inl ⟨by rfl, ?_⟩) ?_
      rotate_left
      · (intro w; go_simp; try with_reducible rfl)
      refine wpAny_take (i := 2) (v := ?_) rfl (by kernel_rfl) (by kernel_rfl) (by kernel_rfl) (fun _ _ _ h => h) (Or.inl ⟨by rfl, ?_⟩) ?_
      rotate_left
      · (intro w; go_simp; try with_reducible rfl)
      refine wpAny_take (i := 3) (v := ?_) rfl (by kernel_rfl) (by kernel_rfl) (by kernel_rfl) (fun _ _ _ h => h) (Or.inl ⟨by rfl, ?_⟩) ?_
      rotate_left
      · (intro w; go_simp; try with_reducible rfl)
      refine wpAny_take (i := 4) (v := ?_) rfl (by kernel_rfl) (by kernel_rfl) (by kernel_rfl) (fun _ _ _ h => h) (Or.inl ⟨by rfl, ?_⟩) ?_
      rotate_left
      · (intro w; go_simp; try with_reducible rfl)
      refine wpAny_ready (rs := [1, 5, 6]) (by kernel_rfl) (by simp) ?_
      refine AllReady.cons rfl (fun K hK => ?_) ?_
      go_simp
      refine hK _ _ ?_
      clear hK K
      refine wpAny_ready (rs := [5, 6]) (by kernel_rfl) (by simp) ?_
      refine AllReady.cons rfl (fun K hK => ?_) ?_
      go_simp
      refine hK _ _ ?_
      clear hK K
      refine wpAny_ready (rs := [6]) (by kernel_rfl) (by simp) ?_
      refine AllReady.cons rfl (fun K hK => ?_) ?_
      go_simp
      refine hK _ _ ?_
      clear hK K
      refine wpAny_ready (rs := [7]) (by kernel_rfl) (by simp) ?_
      refine AllReady.cons rfl (fun K hK => ?_) ?_
      go_simp
      refine hK _ _ ?_
      clear hK K
      refine wpAny_ready (rs := [8]) (by kernel_rfl) (by simp) ?_
      refine AllReady.cons rfl (fun K hK => ?_) ?_
      go_simp
      refine hK _ _ ?_
      clear hK K
      refine wpAny_ready (rs := [9]) (by kernel_rfl) (by simp) ?_
      refine AllReady.cons rfl (fun K hK => ?_) ?_
      go_simp
      refine hK _ _ ?_
      clear hK K
      refine wpAny_done (by kernel_rfl) ?_ _
      rotate_left
      exact AllReady.nil
      exact AllReady.nil
      exact AllReady.nil
      exact AllReady.nil
      refine AllReady.cons rfl (fun K hK => ?_) ?_
      go_simp
      refine hK _ _ ?_
      clear hK K
      refine wpAny_ready (rs := [5, 7]) (by kernel_rfl) (by simp) ?_
      refine AllReady.cons rfl (fun K hK => ?_) ?_
      go_simp
      refine hK _ _ ?_
      clear hK K
      refine wpAny_ready (rs := [7]) (by kernel_rfl) (by simp) ?_
      refine AllReady.cons rfl (fun K hK => ?_) ?_
      go_simp
      refine hK _ _ ?_
      clear hK K
      refine wpAny_ready (rs := [8]) (by kernel_rfl) (by simp) ?_
      refine AllReady.cons rfl (fun K hK => ?_) ?_
      go_simp
      refine hK _ _ ?_
      clear hK K
      refine wpAny_ready (rs := [9]) (by kernel_rfl) (by simp) ?_
      refine AllReady.cons rfl (fun K hK => ?_) ?_
      go_simp
      refine hK _ _ ?_
      clear hK K
      refine wpAny_done (by kernel_rfl) ?_ _
      rotate_left
      exact AllReady.nil
      exact AllReady.nil
      exact AllReady.nil
      refine AllReady.cons rfl (fun K hK => ?_) ?_
      go_simp
      refine hK _ _ ?_
      clear hK K
      refine wpAny_ready (rs := [5, 8]) (by kernel_rfl) (by simp) ?_
      refine AllReady.cons rfl (fun K hK => ?_) ?_
      go_simp
      refine hK _ _ ?_
      clear hK K
      refine wpAny_ready (rs := [8]) (by kernel_rfl) (by simp) ?_
      refine AllReady.cons rfl (fun K hK => ?_) ?_
      go_simp
      refine hK _ _ ?_
      clear hK K
      refine wpAny_ready (rs := [9]) (by kernel_rfl) (by simp) ?_
      refine AllReady.cons rfl (fun K hK => ?_) ?_
      go_simp
      refine hK _ _ ?_
      clear hK K
      refine wpAny_done (by kernel_rfl) ?_ _
      rotate_left
      exact AllReady.nil
      exact AllReady.nil
      refine AllReady.cons rfl (fun K hK => ?_) ?_
      go_simp
      refine hK _ _ ?_
      clear hK K
      refine wpAny_ready (rs := [5]) (by kernel_rfl) (by simp) ?_
      refine AllReady.cons rfl (fun K hK => ?_) ?_
      go_simp
      refine hK _ _ ?_
      clear hK K
      refine wpAny_ready (rs := [9]) (by kernel_rfl) (by simp) ?_
      refine AllReady.cons rfl (fun K hK => ?_) ?_
      go_simp
      refine hK _ _ ?_
      clear hK K
      refine wpAny_done (by kernel_rfl) ?_ _
      rotate_left
      exact AllReady.nil
      exact AllReady.nil
      exact AllReady.nil
      exact AllReady.nil
      exact AllReady.nil
      refine AllReady.cons rfl (fun K hK => ?_) ?_
      go_simp
      refine hK _ _ ?_
      clear hK K
      refine wpAny_ready (rs := [1, 6]) (by kernel_rfl) (by simp) ?_
      refine AllReady.cons rfl (fun K hK => ?_) ?_
      go_simp
      refine hK _ _ ?_
      clear hK K
      refine wpAny_ready (rs := [6]) (by kernel_rfl) (by simp) ?_
      refine AllReady.cons rfl (fun K hK => ?_) ?_
      go_simp
      refine hK _ _ ?_
      clear hK K
      refine wpAny_ready (rs := [7]) (by kernel_rfl) (by simp) ?_
      refine AllReady.cons rfl (fun K hK => ?_) ?_
      go_simp
      refine hK _ _ ?_
      clear hK K
      refine wpAny_ready (rs := [8]) (by kernel_rfl) (by simp) ?_
      refine AllReady.cons rfl (fun K hK => ?_) ?_
      go_simp
      refine hK _ _ ?_
      clear hK K
      refine wpAny_ready (rs := [9]) (by kernel_rfl) (by simp) ?_
      refine AllReady.cons rfl (fun K hK => ?_) ?_
      go_simp
      refine hK _ _ ?_
      clear hK K
      refine wpAny_done (by kernel_rfl) ?_ _
      rotate_left
      exact AllReady.nil
      exact AllReady.nil
      exact AllReady.nil
      exact AllReady.nil
      refine AllReady.cons rfl (fun K hK => ?_) ?_
      go_simp
      refine hK _ _ ?_
      clear hK K
      refine wpAny_ready (rs := [1, 7]) (by kernel_rfl) (by simp) ?_
      refine AllReady.cons rfl (fun K hK => ?_) ?_
      go_simp
      refine hK _ _ ?_
      clear hK K
      refine wpAny_ready (rs := [7]) (by kernel_rfl) (by simp) ?_
      refine AllReady.cons rfl (fun K hK => ?_) ?_
      go_simp
      refine hK _ _ ?_
      clear hK K
      refine wpAny_ready (rs := [8]) (by kernel_rfl) (by simp) ?_
      refine AllReady.cons rfl (fun K hK => ?_) ?_
      go_simp
      refine hK _ _ ?_
      clear hK K
      refine wpAny_ready (rs := [9]) (by kernel_rfl) (by simp) ?_
      refine AllReady.cons rfl (fun K hK => ?_) ?_
      go_simp
      refine hK _ _ ?_
      clear hK K
      refine wpAny_done (by kernel_rfl) ?_ _
      rotate_left
      exact AllReady.nil
      exact AllReady.nil
      exact AllReady.nil
      refine AllReady.cons rfl (fun K hK => ?_) ?_
      go_simp
      refine hK _ _ ?_
      clear hK K
      refine wpAny_ready (rs := [1]) (by kernel_rfl) (by simp) ?_
      refine AllReady.cons rfl (fun K hK => ?_) ?_
      go_simp
      refine hK _ _ ?_
      clear hK K
      refine wpAny_ready (rs := [8]) (by kernel_rfl) (by simp) ?_
      refine AllReady.cons rfl (fun K hK => ?_) ?_
      go_simp
      refine hK _ _ ?_
      clear hK K
      refine wpAny_ready (rs := [9]) (by kernel_rfl) (by simp) ?_
      refine AllReady.cons rfl (fun K hK => ?_) ?_
      go_simp
      refine hK _ _ ?_
      clear hK K
      refine wpAny_done (by kernel_rfl) ?_ _
      rotate_left
      exact AllReady.nil
      exact AllReady.nil
      exact AllReady.nil
      exact AllReady.nil
      exact AllReady.nil
      refine AllReady.cons rfl (fun K hK => ?_) ?_
      go_simp
      refine hK _ _ ?_
      clear hK K
      refine wpAny_ready (rs := [1, 5, 7]) (by kernel_rfl) (by simp) ?_
      refine AllReady.cons rfl (fun K hK => ?_) ?_
      go_simp
      refine hK _ _ ?_
      clear hK K
      refine wpAny_ready (rs := [5, 7]) (by kernel_rfl) (by simp) ?_
      refine AllReady.cons rfl (fun K hK => ?_) ?_
      go_simp
      refine hK _ _ ?_
      clear hK K
      refine wpAny_ready (rs := [7]) (by kernel_rfl) (by simp) ?_
      refine AllReady.cons rfl (fun K hK => ?_) ?_
      go_simp
      refine hK _ _ ?_
      clear hK K
      refine wpAny_ready (rs := [8]) (by kernel_rfl) (by simp) ?_
      refine AllReady.cons rfl (fun K hK => ?_) ?_
      go_simp
      refine hK _ _ ?_
      clear hK K
      refine wpAny_ready (rs := [9]) (by kernel_rfl) (by simp) ?_
      refine AllReady.cons rfl (fun K hK => ?_) ?_
      go_simp
      refine hK _ _ ?_
      clear hK K
      refine wpAny_done (by kernel_rfl) ?_ _
      rotate_left
      exact AllReady.nil
      exact AllReady.nil
      exact AllReady.nil
      refine AllReady.cons rfl (fun K hK => ?_) ?_
      go_simp
      refine hK _ _ ?_
      clear hK K
      refine wpAny_ready (rs := [5, 8]) (by kernel_rfl) (by simp) ?_
      refine AllReady.cons rfl (fun K hK => ?_) ?_
      go_simp
      refine hK _ _ ?_
      clear hK K
      refine wpAny_ready (rs := [8]) (by kernel_rfl) (by simp) ?_
      refine AllReady.cons rfl (fun K hK => ?_) ?_
      go_simp
      refine hK _ _ ?_
      clear hK K
      refine wpAny_ready (rs := [9]) (by kernel_rfl) (by simp) ?_
      refine AllReady.cons rfl (fun K hK => ?_) ?_
      go_simp
      refine hK _ _ ?_
      clear hK K
      refine wpAny_done (by kernel_rfl) ?_ _
      rotate_left
      exact AllReady.nil
      exact AllReady.nil
      refine AllReady.cons rfl (fun K hK => ?_) ?_
      go_simp
      refine hK _ _ ?_
      clear hK K
      refine wpAny_ready (rs := [5]) (by kernel_rfl) (by simp) ?_
      refine AllReady.cons rfl (fun K hK => ?_) ?_
      go_simp
      refine hK _ _ ?_
      clear hK K
      refine wpAny_ready (rs := [9]) (by kernel_rfl) (by simp) ?_
      refine AllReady.cons rfl (fun K hK => ?_) ?_
      go_simp
      refine hK _ _ ?_
      clear hK K
      refine wpAny_done (by kernel_rfl) ?_ _
      rotate_left
      exact AllReady.nil
      exact AllReady.nil
      exact AllReady.nil
      exact AllReady.nil
      refine AllReady.cons rfl (fun K hK => ?_) ?_
      go_simp
      refine hK _ _ ?_
      clear hK K
      refine wpAny_ready (rs := [1, 7]) (by kernel_rfl) (by simp) ?_
      refine AllReady.cons rfl (fun K hK => ?_) ?_
      go_simp
      refine hK _ _ ?_
      clear hK K
      refine wpAny_ready (rs := [7]) (by kernel_rfl) (by simp) ?_
      refine AllReady.cons rfl (fun K hK => ?_) ?_
      go_simp
      refine hK _ _ ?_
      clear hK K
      refine wpAny_ready (rs := [8]) (by kernel_rfl) (by simp) ?_
      refine AllReady.cons rfl (fun K hK => ?_) ?_
      go_simp
      refine hK _ _ ?_
      clear hK K
      refine wpAny_ready (rs := [9]) (by kernel_rfl) (by simp) ?_
      refine AllReady.cons rfl (fun K hK => ?_) ?_
      go_simp
      refine hK _ _ ?_
      clear hK K
      refine wpAny_done (by kernel_rfl) ?_ _
      rotate_left
      exact AllReady.nil
      exact AllReady.nil
      exact AllReady.nil
      refine AllReady.cons rfl (fun K hK => ?_) ?_
      go_simp
      refine hK _ _ ?_
      clear hK K
      refine wpAny_ready (rs := [1]) (by kernel_rfl) (by simp) ?_
      refine AllReady.cons rfl (fun K hK => ?_) ?_
      go_simp
      refine hK _ _ ?_
      clear hK K
      refine wpAny_ready (rs := [8]) (by kernel_rfl) (by simp) ?_
      refine AllReady.cons rfl (fun K hK => ?_) ?_
      go_simp
      refine hK _ _ ?_
      clear hK K
      refine wpAny_ready (rs := [9]) (by kernel_rfl) (by simp) ?_
      refine AllReady.cons rfl (fun K hK => ?_) ?_
      go_simp
      refine hK _ _ ?_
      clear hK K
      refine wpAny_done (by kernel_rfl) ?_ _
      rotate_left
      exact AllReady.nil
      exact AllReady.nil
      exact AllReady.nil
      exact AllReady.nil
      refine AllReady.cons rfl (fun K hK => ?_) ?_
      go_simp
      refine hK _ _ ?_
      clear hK K
      refine wpAny_ready (rs := [1, 5]) (by kernel_rfl) (by simp) ?_
      refine AllReady.cons rfl (fun K hK => ?_) ?_
      go_simp
      refine hK _ _ ?_
      clear hK K
      refine wpAny_ready (rs := [5, 8]) (by kernel_rfl) (by simp) ?_
      refine AllReady.cons rfl (fun K hK => ?_) ?_
      go_simp
      refine hK _ _ ?_
      clear hK K
      refine wpAny_ready (rs := [8]) (by kernel_rfl) (by simp) ?_
      refine AllReady.cons rfl (fun K hK => ?_) ?_
      go_simp
      refine hK _ _ ?_
      clear hK K
      refine wpAny_ready (rs := [9]) (by kernel_rfl) (by simp) ?_
      refine AllReady.cons rfl (fun K hK => ?_) ?_
      go_simp
      refine hK _ _ ?_
      clear hK K
      refine wpAny_done (by kernel_rfl) ?_ _
      rotate_left
      exact AllReady.nil
      exact AllReady.nil
      refine AllReady.cons rfl (fun K hK => ?_) ?_
      go_simp
      refine hK _ _ ?_
      clear hK K
      refine wpAny_ready (rs := [5]) (by kernel_rfl) (by simp) ?_
      refine AllReady.cons rfl (fun K hK => ?_) ?_
      go_simp
      refine hK _ _ ?_
      clear hK K
      refine wpAny_ready (rs := [9]) (by kernel_rfl) (by simp) ?_
      refine AllReady.cons rfl (fun K hK => ?_) ?_
      go_simp
      refine hK _ _ ?_
      clear hK K
      refine wpAny_done (by kernel_rfl) ?_ _
      rotate_left
      exact AllReady.nil
      exact AllReady.nil
      exact AllReady.nil
      refine AllReady.cons rfl (fun K hK => ?_) ?_
      go_simp
      refine hK _ _ ?_
      clear hK K
      refine wpAny_ready (rs := [1]) (by kernel_rfl) (by simp) ?_
      refine AllReady.cons rfl (fun K hK => ?_) ?_
      go_simp
      refine hK _ _ ?_
      clear hK K
      refine wpAny_ready (rs := [8]) (by kernel_rfl) (by simp) ?_
      refine AllReady.cons rfl (fun K hK => ?_) ?_
      go_simp
      refine hK _ _ ?_
      clear hK K
      refine wpAny_ready (rs := [9]) (by kernel_rfl) (by simp) ?_
      refine AllReady.cons rfl (fun K hK => ?_) ?_
      go_simp
      refine hK _ _ ?_
      clear hK K
      refine wpAny_done (by kernel_rfl) ?_ _
      rotate_left
      exact AllReady.nil
      exact AllReady.nil
      exact AllReady.nil
      exact AllReady.nil
      exact AllReady.nil
      exact AllReady.nil
      all_goals
        gi_wp2
        exact FIN.out
    | ok ws =>
      rw [hR] at hw
      have hwl := words_len hR
      gi_wp2_with (refine ⟨trivial, ?_⟩; gi_at_call 12; refine (CallsIn.inRound l (callsIn_wide.2 hw)).mono ?_; rintro e V ⟨rfl, cV, pp, pc, vv, hL, hown⟩; obtain ⟨Av, cv, rfl⟩ := own_shape hown; obtain ⟨jl, bl0, bl1, bl2, bl3⟩ := hL.cells)
      have cW : Chg (fun k => k = w.heap.size + 1 + 1 + 1 + 1 + 1) W V := (chg_alloc (chg_set (F := fun k => k = w.heap.size + 1 + 1 + 1 + 1 + 1) (Chg.refl _ _) _ _ _) _).trans cV (fun i hi e => by omega)
      have a7 : V.heap[w.heap.size + 1 + 1 + 1 + 1 + 1]? = some (.cells #[.int .i64 (ln : Int)] 3 (0, 0)) := (cV.block _ (by simp [World.setCell]; omega) (by omega)).trans ((Below.heap_alloc _ _ _ (by simp [World.setCell]; omega)).trans (heap_setCell_same _ _ 0 _ _ _ hi.no))
      have S0 : ISt w X.heap.size W.heap.size ln x pp pc (.slice Av ws.length cv) ws W (toks rows) v2 V := by
        refine ⟨Nat.le_trans hi.sz cW.size, hi.chg.trans cW (fun i hi e => by omega), keepsG cW (fun k hk => .inl (by omega)), ⟨cW.size, fun k hk => cW.block k (by omega) (by omega)⟩, cW.heap_at hi.r2 (by omega), cW.heap_at hi.r3 (by omega), cW.heap_at hi.r4 (by omega), cW.heap_at hi.r5 (by omega), a7, hL, own_base hown (by simp [World.setCell]; omega), cW.heap_at h4 (by omega), own_chg ho4 cW (fun k hk e => by have := (ho4.lt k hk).1; omega), ?_, hsW, hn0⟩
        intro q hq e
        have h1 := (hown.lt q hq).1
        have h2 := (ho4.lt q e).2
        simp [World.setCell] at h1
        omega
      have HS0 := Lib.hid S0
      have HR := Lib.hid (And.intro hR (And.intro hrows (And.intro hlen (And.intro hwl (And.intro hsW (And.intro hg hlt))))))
      clear S0 cW a7 cV hR hrows hlen hi hw hL hown h4 ho4 n5 f5 i5 iM5 wn hwl hsW hg hlt
      gi_loopw [39] (fun i39 wr => ∃ (k : Nat) (v3 : Value), k ≤ ws.length ∧ i39 = .int .i64 k ∧ ISt w X.heap.size W.heap.size ln x pp pc (.slice Av ws.length cv) ws W (toks rows ++ (ws.take k).map fun y => (ln, y)) v3 wr) (fun i39 wr => ws.length - (intOf i39).toNat)
      case atStart => exact ⟨0, v2, Nat.zero_le _, rfl, by simpa using HS0.out⟩
      case round =>
        obtain ⟨k, v3, hk, rfl, S⟩ := hrel
        by_cases hlt : k < ws.length
        · have hkb : ws.length ≤ 100000 := by have := HR.out.2.2.2.1; omega
          obtain ⟨y, hy⟩ : ∃ y, ws[k]? = some y := ⟨_, List.getElem?_eq_getElem hlt⟩
          have hown := S.own
          obtain ⟨gv, cv', e1, _, hgv⟩ := hown.form (by omega)
          obtain ⟨rfl, rfl⟩ : Av = some ⟨gv, 0, none⟩ ∧ cv = cv' := by simpa using e1
          clear e1
          obtain ⟨y0, y1, y2, y3⟩ := tok_cells hown hy
          obtain ⟨A3, c3, rfl⟩ := own_shape S.out
          have jg : Old gv wr := ⟨hgv⟩
          have n5 : wr.cell? ⟨w.heap.size + 1 + 1 + 1 + 1 + 1, 0, none⟩ = some (.int .i64 (ln : Int)) := by rw [cell_of_row _ _ 0 _ _ _ S.no]; rfl
          have n4 : wr.cell? ⟨w.heap.size + 1 + 1 + 1 + 1, 0, none⟩ = some (.slice A3 (toks rows ++ (ws.take k).map fun y => (ln, y)).length c3) := by rw [cell_of_row _ _ 0 _ _ _ S.outc]; rfl
          have f4 : wr.frozen? ⟨w.heap.size + 1 + 1 + 1 + 1, 0, none⟩ = false := frozen_of_row _ _ 0 _ _ S.outc
          have i5 : Old (w.heap.size + 1 + 1 + 1 + 1 + 1) wr := ⟨(Array.getElem?_eq_some_iff.1 S.no).1⟩
          have i4 : Old (w.heap.size + 1 + 1 + 1 + 1) wr := ⟨(Array.getElem?_eq_some_iff.1 S.outc).1⟩
          have x1 : decide (k < ws.length) = true := decide_eq_true hlt
          obtain ⟨tl, htl⟩ : ∃ tl, toks rows ++ (ws.take k).map (fun y => (ln, y)) = tl := ⟨_, rfl⟩
          rw [htl] at S n4
          have hcl := fun W => cloneT_any ⟨y.text.toArray⟩ W (by have := words_text HR.out.1 (List.mem_of_getElem? hy); show y.text.toArray.size ≤ _; simp; omega)
          have HS := Lib.hid S
          have HY := Lib.hid (And.intro hy htl)
          clear hy htl S hown
          gi_wp2_with fail
          refine wpIn_region_round (by kernel_rfl) (by kernel_rfl) (by rintro ⟨_, _, h⟩; exact h) ?_
          refine wpAny_take (i := 1) (v := ?_) rfl (by kernel_rfl) (by kernel_rfl) (by kernel_rfl) (fun _ _ _ h => h) (Or.inl ⟨by rfl, ?_⟩) ?_
          rotate_left
          · (intro w; go_simp; try with_reducible rfl)
          refine wpAny_ready (rs := [0, 2]) (by kernel_rfl) (by simp) ?_
          refine AllReady.cons rfl (fun K hK => ?_) ?_
          go_simp
          refine hK _ _ ?_
          clear hK K
          refine wpAny_ready (rs := [2]) (by kernel_rfl) (by simp) ?_
          refine AllReady.cons rfl (fun K hK => ?_) ?_
          go_simp
          refine hK _ _ ?_
          clear hK K
          refine wpAny_take (i := 4) (v := ?_) rfl (by kernel_rfl) (by kernel_rfl) (by kernel_rfl) (fun _ _ _ h => h) (Or.inl ⟨by rfl, ?_⟩) ?_
          rotate_left
          · (intro w; go_simp; try with_reducible rfl)
          refine wpAny_ready (rs := [3]) (by kernel_rfl) (by simp) ?_
          refine AllReady.cons rfl (fun K hK => ?_) ?_
          go_simp
          go_at_call 13
          refine (hcl _).mono ?_
          rintro e Z ⟨rfl, cZ⟩
          have hT : Z.heap[wr.heap.size]? = some (.cells #[.int .i64 y.kind, .string ⟨y.text.toArray⟩, .int .i64 0, .int .i64 (y.col : Int)] 33 (0, 0)) := cZ.heap_at' (heap_alloc_new wr _)
          have jT : Old wr.heap.size Z := ⟨(Array.getElem?_eq_some_iff.1 hT).1⟩
          have zT1 : Z.cell? ⟨wr.heap.size, 1, none⟩ = some (.string ⟨y.text.toArray⟩) := by rw [cell_of_row _ _ 1 _ _ _ hT]; rfl
          have zT2 : Z.cell? ⟨wr.heap.size, 2, none⟩ = some (.int .i64 0) := by rw [cell_of_row _ _ 2 _ _ _ hT]; rfl
          have kT1 : HasCell Z wr.heap.size 1 := ⟨by rw [zT1]; rfl⟩
          have kT2 : HasCell Z wr.heap.size 2 := ⟨by rw [zT2]; rfl⟩
          have fT : ∀ i, Z.frozen? ⟨wr.heap.size, i, none⟩ = false := fun i => frozen_of_row _ _ _ _ _ hT
          have z5 : Z.cell? ⟨w.heap.size + 1 + 1 + 1 + 1 + 1, 0, none⟩ = some (.int .i64 (ln : Int)) := (cZ.cell (p := ⟨w.heap.size + 1 + 1 + 1 + 1 + 1, 0, none⟩) (Old.lt (b := w.heap.size + 1 + 1 + 1 + 1 + 1)) (fun e => e)).trans (by simp [go_sem, n5])
          try go_simp
          refine hK _ _ ?_
          clear hK K
          refine wpAny_ready (rs := [5]) (by kernel_rfl) (by simp) ?_
          refine AllReady.cons rfl (fun K hK => ?_) ?_
          go_simp
          refine hK _ _ ?_
          clear hK K
          refine wpAny_take (i := 6) (v := ?_) rfl (by kernel_rfl) (by kernel_rfl) (by kernel_rfl) (fun _ _ _ h => h) (Or.inl ⟨by rfl, ?_⟩) ?_
          rotate_left
          · (intro w; go_simp; try with_reducible rfl)
          refine wpAny_ready (rs := [7]) (by kernel_rfl) (by simp) ?_
          refine AllReady.cons rfl (fun K hK => ?_) ?_
          go_simp
          refine hK _ _ ?_
          clear hK K
          refine wpAny_done (by kernel_rfl) ?_ _
          rotate_left
          exact AllReady.nil
          exact AllReady.nil
          exact AllReady.nil
          exact AllReady.nil
          refine AllReady.cons rfl (fun K hK => ?_) ?_
          go_simp
          refine hK _ _ ?_
          clear hK K
          refine wpAny_ready (rs := [0, 3]) (by kernel_rfl) (by simp) ?_
          refine AllReady.cons rfl (fun K hK => ?_) ?_
          go_simp
          refine hK _ _ ?_
          clear hK K
          refine wpAny_take (i := 4) (v := ?_) rfl (by kernel_rfl) (by kernel_rfl) (by kernel_rfl) (fun _ _ _ h => h) (Or.inl ⟨by rfl, ?_⟩) ?_
          rotate_left
          · (intro w; go_simp; try with_reducible rfl)
          refine wpAny_ready (rs := [3]) (by kernel_rfl) (by simp) ?_
          refine AllReady.cons rfl (fun K hK => ?_) ?_
          go_simp
          go_at_call 13
          refine (hcl _).mono ?_
          rintro e Z ⟨rfl, cZ⟩
          have hT : Z.heap[wr.heap.size]? = some (.cells #[.int .i64 y.kind, .string ⟨y.text.toArray⟩, .int .i64 0, .int .i64 (y.col : Int)] 33 (0, 0)) := cZ.heap_at' (heap_alloc_new wr _)
          have jT : Old wr.heap.size Z := ⟨(Array.getElem?_eq_some_iff.1 hT).1⟩
          have zT1 : Z.cell? ⟨wr.heap.size, 1, none⟩ = some (.string ⟨y.text.toArray⟩) := by rw [cell_of_row _ _ 1 _ _ _ hT]; rfl
          have zT2 : Z.cell? ⟨wr.heap.size, 2, none⟩ = some (.int .i64 0) := by rw [cell_of_row _ _ 2 _ _ _ hT]; rfl
          have kT1 : HasCell Z wr.heap.size 1 := ⟨by rw [zT1]; rfl⟩
          have kT2 : HasCell Z wr.heap.size 2 := ⟨by rw [zT2]; rfl⟩
          have fT : ∀ i, Z.frozen? ⟨wr.heap.size, i, none⟩ = false := fun i => frozen_of_row _ _ _ _ _ hT
          have z5 : Z.cell? ⟨w.heap.size + 1 + 1 + 1 + 1 + 1, 0, none⟩ = some (.int .i64 (ln : Int)) := (cZ.cell (p := ⟨w.heap.size + 1 + 1 + 1 + 1 + 1, 0, none⟩) (Old.lt (b := w.heap.size + 1 + 1 + 1 + 1 + 1)) (fun e => e)).trans (by simp [go_sem, n5])
          try go_simp
          refine hK _ _ ?_
          clear hK K
          refine wpAny_ready (rs := [5]) (by kernel_rfl) (by simp) ?_
          refine AllReady.cons rfl (fun K hK => ?_) ?_
          go_simp
          refine hK _ _ ?_
          clear hK K
          refine wpAny_take (i := 6) (v := ?_) rfl (by kernel_rfl) (by kernel_rfl) (by kernel_rfl) (fun _ _ _ h => h) (Or.inl ⟨by rfl, ?_⟩) ?_
          rotate_left
          · (intro w; go_simp; try with_reducible rfl)
          refine wpAny_ready (rs := [7]) (by kernel_rfl) (by simp) ?_
          refine AllReady.cons rfl (fun K hK => ?_) ?_
          go_simp
          refine hK _ _ ?_
          clear hK K
          refine wpAny_done (by kernel_rfl) ?_ _
          rotate_left
          exact AllReady.nil
          exact AllReady.nil
          exact AllReady.nil
          refine AllReady.cons rfl (fun K hK => ?_) ?_
          go_simp
          go_at_call 13
          refine (hcl _).mono ?_
          rintro e Z ⟨rfl, cZ⟩
          have hT : Z.heap[wr.heap.size]? = some (.cells #[.int .i64 y.kind, .string ⟨y.text.toArray⟩, .int .i64 0, .int .i64 (y.col : Int)] 33 (0, 0)) := cZ.heap_at' (heap_alloc_new wr _)
          have jT : Old wr.heap.size Z := ⟨(Array.getElem?_eq_some_iff.1 hT).1⟩
          have zT1 : Z.cell? ⟨wr.heap.size, 1, none⟩ = some (.string ⟨y.text.toArray⟩) := by rw [cell_of_row _ _ 1 _ _ _ hT]; rfl
          have zT2 : Z.cell? ⟨wr.heap.size, 2, none⟩ = some (.int .i64 0) := by rw [cell_of_row _ _ 2 _ _ _ hT]; rfl
          have kT1 : HasCell Z wr.heap.size 1 := ⟨by rw [zT1]; rfl⟩
          have kT2 : HasCell Z wr.heap.size 2 := ⟨by rw [zT2]; rfl⟩
          have fT : ∀ i, Z.frozen? ⟨wr.heap.size, i, none⟩ = false := fun i => frozen_of_row _ _ _ _ _ hT
          have z5 : Z.cell? ⟨w.heap.size + 1 + 1 + 1 + 1 + 1, 0, none⟩ = some (.int .i64 (ln : Int)) := (cZ.cell (p := ⟨w.heap.size + 1 + 1 + 1 + 1 + 1, 0, none⟩) (Old.lt (b := w.heap.size + 1 + 1 + 1 + 1 + 1)) (fun e => e)).trans (by simp [go_sem, n5])
          try go_simp
          refine hK _ _ ?_
          clear hK K
          refine wpAny_ready (rs := [0]) (by kernel_rfl) (by simp) ?_
          refine AllReady.cons rfl (fun K hK => ?_) ?_
          go_simp
          refine hK _ _ ?_
          clear hK K
          refine wpAny_take (i := 4) (v := ?_) rfl (by kernel_rfl) (by kernel_rfl) (by kernel_rfl) (fun _ _ _ h => h) (Or.inl ⟨by rfl, ?_⟩) ?_
          rotate_left
          · (intro w; go_simp; try with_reducible rfl)
          refine wpAny_ready (rs := [5]) (by kernel_rfl) (by simp) ?_
          refine AllReady.cons rfl (fun K hK => ?_) ?_
          go_simp
          refine hK _ _ ?_
          clear hK K
          refine wpAny_take (i := 6) (v := ?_) rfl (by kernel_rfl) (by kernel_rfl) (by kernel_rfl) (fun _ _ _ h => h) (Or.inl ⟨by rfl, ?_⟩) ?_
          rotate_left
          · (intro w; go_simp; try with_reducible rfl)
          refine wpAny_ready (rs := [7]) (by kernel_rfl) (by simp) ?_
          refine AllReady.cons rfl (fun K hK => ?_) ?_
          go_simp
          refine hK _ _ ?_
          clear hK K
          refine wpAny_done (by kernel_rfl) ?_ _
          rotate_left
          exact AllReady.nil
          exact AllReady.nil
          exact AllReady.nil
          exact AllReady.nil
          exact AllReady.nil
          all_goals
            have hT2 := heap_setCell_same _ _ 2 _ _ (.int .i64 (ln : Int)) hT
            have hT3 := heap_setCell_same _ _ 1 _ _ (.string ⟨y.text.toArray⟩) hT2
            have iT : May wr.heap.size Noth wr := ⟨.inr (Nat.le_refl _)⟩
            have hcY : Chg Noth wr ((Z.setCell ⟨wr.heap.size, 2, none⟩ (.int .i64 (ln : Int))).setCell ⟨wr.heap.size, 1, none⟩ (.string ⟨y.text.toArray⟩)) := chg_set (chg_set (Chg.trans (by repeat (with_reducible first | exact Chg.refl _ _ | refine chg_alloc ?_ _ | refine chg_drew ?_)) cZ (fun _ _ e => e)) _ _ _) _ _ _
            obtain ⟨Y, hYe⟩ : ∃ Y, ((Z.setCell ⟨wr.heap.size, 2, none⟩ (.int .i64 (ln : Int))).setCell ⟨wr.heap.size, 1, none⟩ (.string ⟨y.text.toArray⟩)) = Y := ⟨_, rfl⟩
            simp only [hYe] at hT3 hcY ⊢
            clear hYe hT2 hT iT z5
            have S := HS.out.grow hcY
            have hlen3 : tl.length ≤ 5000000000 := by
              rw [← HY.out.2]
              have h1 := HR.out.2.2.1
              have h2 := HR.out.2.2.2.1
              have h3 := HR.out.2.2.2.2.2.2
              have h4 : pre.length * 70000 ≤ 65537 * 70000 := Nat.mul_le_mul_right _ (by omega)
              simp
              omega
            have HB := Lib.hid hlen3
            clear hlen3
            obtain ⟨i0, hi0, hz0, hz1, hz2⟩ := info_parts infoTok
            have m4 : Y.cell? ⟨w.heap.size + 1 + 1 + 1 + 1, 0, none⟩ = some (.slice A3 tl.length c3) := by rw [cell_of_row _ _ 0 _ _ _ S.outc]; rfl
            have g4 : Y.frozen? ⟨w.heap.size + 1 + 1 + 1 + 1, 0, none⟩ = false := frozen_of_row _ _ 0 _ _ S.outc
            have k4 : Old (w.heap.size + 1 + 1 + 1 + 1) Y := ⟨(Array.getElem?_eq_some_iff.1 S.outc).1⟩
            have kT : Old (wr.heap.size) Y := ⟨(Array.getElem?_eq_some_iff.1 hT3).1⟩
            have p0 : Y.cell? ⟨wr.heap.size, 0, none⟩ = some (.int .i64 y.kind) := by rw [cell_of_row _ _ 0 _ _ _ hT3]; rfl
            have p1 : Y.cell? ⟨wr.heap.size, 1, none⟩ = some (.string ⟨y.text.toArray⟩) := by rw [cell_of_row _ _ 1 _ _ _ hT3]; rfl
            have p2 : Y.cell? ⟨wr.heap.size, 2, none⟩ = some (.int .i64 (ln : Int)) := by rw [cell_of_row _ _ 2 _ _ _ hT3]; rfl
            have p3 : Y.cell? ⟨wr.heap.size, 3, none⟩ = some (.int .i64 (y.col : Int)) := by rw [cell_of_row _ _ 3 _ _ _ hT3]; rfl
            have hne4 : ¬ (Value.slice A3 tl.length c3).ownBlock = some (w.heap.size + 1 + 1 + 1 + 1) := fun e => by have := (S.out.lt _ e).1; omega
            have hout := S.out
            have HS2 := Lib.hid S
            have HT3 := Lib.hid hT3
            have HC := Lib.hid hcY
            clear hT3 hcY S
            gi_wp2_with (gi_at_builtin; refine wpListIn_append_own_at _ rfl _ _ 29 rfl X.heap.size 33 i0 _ 4 40 Tryd.underlying29 hi0 hz0 hz1 hz2 rfl (by decide) (.slice A3 tl.length c3) tl.length (flT tl) rfl (own_chg (F := Noth) hout (chg_alloc (Chg.refl _ _) _) (fun _ _ e => e)) ⟨_, 0, none⟩ 1 1 [.int .i64 y.kind, .string ⟨y.text.toArray⟩, .int .i64 (ln : Int), .int .i64 (y.col : Int)] rfl rfl (World.news_of_block (cs := #[.int .i64 y.kind, .string ⟨y.text.toArray⟩, .int .i64 (ln : Int), .int .i64 (y.col : Int)]) (heap_hs _ _ _)) (by intro u hu; simp at hu; rcases hu with rfl | rfl | rfl | rfl <;> rfl) (by have := HB.out; simp only [maxLen]; omega) (by have := HB.out; omega) (by have := HS2.out.sz; simp; omega) ?_; intro v' w1 hown' hgrow _ hat; obtain ⟨g', cap', rfl⟩ := ownsRow_succ hown'; have x4' : w1.cell? ⟨w.heap.size + 1 + 1 + 1 + 1, 0, none⟩ = some (.slice A3 tl.length c3) := (hgrow.cell_far ⟨w.heap.size + 1 + 1 + 1 + 1, 0, none⟩ (Old.lt (b := w.heap.size + 1 + 1 + 1 + 1)) (fun e => hne4 e.symm)).trans (by simp [go_sem, m4]); have f4' : w1.frozen? ⟨w.heap.size + 1 + 1 + 1 + 1, 0, none⟩ = false := (hgrow.frozen_far ⟨w.heap.size + 1 + 1 + 1 + 1, 0, none⟩ (Old.lt (b := w.heap.size + 1 + 1 + 1 + 1)) (fun e => hne4 e.symm)).trans (by simp [go_sem, g4]))
            have hP := HS2.out.push (chg_alloc (Chg.refl _ _) _) hgrow y _ rfl hown' (fun q hq => by
              rcases hat with e | e
              · exact .inl (e ▸ hq)
              · rw [hq] at e; cases e; exact .inr (Nat.le_refl _))
            clear hgrow hown' hat
            go_roundw
            case rel =>
              refine ⟨k + 1, .slice (some ⟨g', 0, none⟩) (tl.length + 1) cap', by omega, by go_num, ?_⟩
              have e : toks rows ++ (ws.take (k + 1)).map (fun y => (ln, y)) = tl ++ [(ln, y)] := by
                rw [← HY.out.2, List.take_add_one, HY.out.1]
                simp
              rw [e]
              exact hP
            case measure => simp [intOf]; omega
        · obtain rfl : k = ws.length := by omega
          rw [List.take_length] at S
          obtain ⟨A3, c3, rfl⟩ := own_shape S.out
          obtain ⟨jl2, bm0, bm1, bm2, bm3⟩ := S.line.cells
          have n5 : wr.cell? ⟨w.heap.size + 1 + 1 + 1 + 1 + 1, 0, none⟩ = some (.int .i64 (ln : Int)) := by rw [cell_of_row _ _ 0 _ _ _ S.no]; rfl
          have f4 : wr.frozen? ⟨w.heap.size + 1 + 1 + 1 + 1, 0, none⟩ = false := frozen_of_row _ _ 0 _ _ S.outc
          have i5 : Old (w.heap.size + 1 + 1 + 1 + 1 + 1) wr := ⟨(Array.getElem?_eq_some_iff.1 S.no).1⟩
          have i4 : Old (w.heap.size + 1 + 1 + 1 + 1) wr := ⟨(Array.getElem?_eq_some_iff.1 S.outc).1⟩
          obtain ⟨tl, htl⟩ : ∃ tl, toks rows ++ ws.map (fun y => (ln, y)) = tl := ⟨_, rfl⟩
          rw [htl] at S
          have n4 : wr.cell? ⟨w.heap.size + 1 + 1 + 1 + 1, 0, none⟩ = some (.slice A3 tl.length c3) := by rw [cell_of_row _ _ 0 _ _ _ S.outc]; rfl
          have x1 : decide (ws.length < ws.length) = false := decide_eq_false (by omega)
          have HT := Lib.hid htl
          have HS := Lib.hid S
          clear htl S
          by_cases hemp : 0 < ws.length
          · have x2 : decide (0 < ws.length) = true := decide_eq_true hemp
            obtain ⟨cn, hcn⟩ : ∃ cn, cnt x = cn := ⟨_, rfl⟩
            have hcnl : cn ≤ x.size := by rw [← hcn]; exact runes_len_le x _ 0 rfl
            obtain ⟨cn1, hcn1⟩ : ∃ cn1, cn + 1 = cn1 := ⟨_, rfl⟩
            have wc : wrap64 ((cn : Int) + 1) = (cn1 : Int) := by rw [wid] <;> omega
            have wc2 : IntKind.i64.wrap ((cn : Int) + 1) = (cn1 : Int) := by rw [IntWalk.i64_left]; exact wc
            have hCt := fun W => gr_gc (count_any x W (by omega))
            rw [hcn] at hCt
            have hlen3 : tl.length ≤ 5000000000 := by
              rw [← HT.out]
              have h1 := HR.out.2.2.1
              have h2 := HR.out.2.2.2.1
              have h3 := HR.out.2.2.2.2.2.2
              have h4 : pre.length * 70000 ≤ 65537 * 70000 := Nat.mul_le_mul_right _ (by omega)
              simp
              omega
            have HB := Lib.hid hlen3
            obtain ⟨i0, hi0, hz0, hz1, hz2⟩ := info_parts infoTok
            have hne4 : ¬ (Value.slice A3 tl.length c3).ownBlock = some (w.heap.size + 1 + 1 + 1 + 1) := fun e => by have := (HS.out.out.lt _ e).1; omega
            have HN := Lib.hid (And.intro hcn (And.intro hcn1 hemp))
            clear hcn hcnl hcn1 hlen3 hemp
            gi_wp2_with fail
            refine wpIn_region_round (by kernel_rfl) (by kernel_rfl) (by rintro ⟨_, _, h⟩; exact h) ?_
            refine wpAny_take (i := 2) (v := ?_) rfl (by kernel_rfl) (by kernel_rfl) (by kernel_rfl) (fun _ _ _ h => h) (Or.inl ⟨by rfl, ?_⟩) ?_
            rotate_left
            · (intro w; go_simp; try with_reducible rfl)
            refine wpAny_ready (rs := [0, 1, 3]) (by kernel_rfl) (by simp) ?_
            refine AllReady.cons rfl (fun K hK => ?_) ?_
            go_simp
            refine hK _ _ ?_
            clear hK K
            refine wpAny_ready (rs := [1, 3]) (by kernel_rfl) (by simp) ?_
            refine AllReady.cons rfl (fun K hK => ?_) ?_
            go_simp
            refine hK _ _ ?_
            clear hK K
            refine wpAny_ready (rs := [3]) (by kernel_rfl) (by simp) ?_
            refine AllReady.cons rfl (fun K hK => ?_) ?_
            go_simp
            go_at_call 14
            refine (hCt _).mono ?_
            rintro e Z ⟨rfl, cZ⟩
            have cZw : Chg Noth wr Z := Chg.trans (by repeat (with_reducible first | exact Chg.refl _ _ | refine chg_alloc ?_ _ | refine chg_drew ?_)) cZ (fun _ _ e => e)
            have z4 : Z.cell? ⟨w.heap.size + 1 + 1 + 1 + 1, 0, none⟩ = some (.slice A3 tl.length c3) := (cZw.cell (p := ⟨w.heap.size + 1 + 1 + 1 + 1, 0, none⟩) (Old.lt (b := w.heap.size + 1 + 1 + 1 + 1)) (fun e => e)).trans n4
            have z5 : Z.cell? ⟨w.heap.size + 1 + 1 + 1 + 1 + 1, 0, none⟩ = some (.int .i64 (ln : Int)) := (cZw.cell (p := ⟨w.heap.size + 1 + 1 + 1 + 1 + 1, 0, none⟩) (Old.lt (b := w.heap.size + 1 + 1 + 1 + 1 + 1)) (fun e => e)).trans n5
            have y4 : Z.frozen? ⟨w.heap.size + 1 + 1 + 1 + 1, 0, none⟩ = false := (cZw.frozen (p := ⟨w.heap.size + 1 + 1 + 1 + 1, 0, none⟩) (Old.lt (b := w.heap.size + 1 + 1 + 1 + 1)) (fun e => e)).trans f4
            have k4 : Old (w.heap.size + 1 + 1 + 1 + 1) Z := ⟨Nat.lt_of_lt_of_le (Old.lt (b := w.heap.size + 1 + 1 + 1 + 1) (W := wr)) cZw.size⟩
            try go_simp
            refine hK _ _ ?_
            clear hK K
            refine wpAny_take (i := 4) (v := ?_) rfl (by kernel_rfl) (by kernel_rfl) (by kernel_rfl) (fun _ _ _ h => h) (Or.inl ⟨by rfl, ?_⟩) ?_
            rotate_left
            · (intro w; go_simp; try with_reducible rfl)
            refine wpAny_take (i := 5) (v := ?_) rfl (by kernel_rfl) (by kernel_rfl) (by kernel_rfl) (fun _ _ _ h => h) (Or.inl ⟨by rfl, ?_⟩) ?_
            rotate_left
            · (intro w; go_simp; try with_reducible rfl)
            refine wpAny_ready (rs := [6]) (by kernel_rfl) (by simp) ?_
            refine AllReady.cons rfl (fun K hK => ?_) ?_
            go_simp
            refine hK _ _ ?_
            clear hK K
            refine wpAny_ready (rs := [7]) (by kernel_rfl) (by simp) ?_
            refine AllReady.cons rfl (fun K hK => ?_) ?_
            refine step_append_lies _ rfl (.tmp 60) (.tmp 66) 29 rfl X.heap.size 33 i0 _ 4 40 Tryd.underlying29 hi0 hz0 hz1 hz2 rfl (by decide) (.slice A3 tl.length c3) tl.length (flT tl) rfl (own_chg (F := Noth) HS.out.out (chg_alloc cZw _) (fun _ _ e => e)) ⟨_, 0, none⟩ 1 1 [.int .i64 1, .string ⟨#[10]⟩, .int .i64 (ln : Int), .int .i64 (cn1 : Int)] rfl rfl (World.news_of_block (cs := #[.int .i64 1, .string ⟨#[10]⟩, .int .i64 (ln : Int), .int .i64 (cn1 : Int)]) (heap_alloc_new _ _)) (by intro u hu; simp at hu; rcases hu with rfl | rfl | rfl | rfl <;> rfl) (by omega) (by have := HB.out; simp only [maxLen]; omega) (by have := HB.out; omega) (by have := HS.out.sz; have := cZw.size; simp; omega) _ rfl ?_
            intro g' cap' w1 hown' hgrow hat hltg
            have x4' : w1.cell? ⟨w.heap.size + 1 + 1 + 1 + 1, 0, none⟩ = some (.slice A3 tl.length c3) := (hgrow.cell_far ⟨w.heap.size + 1 + 1 + 1 + 1, 0, none⟩ (Old.lt (b := w.heap.size + 1 + 1 + 1 + 1)) (fun e => hne4 e.symm)).trans (by simp [go_sem, z4])
            have f4' : w1.frozen? ⟨w.heap.size + 1 + 1 + 1 + 1, 0, none⟩ = false := (hgrow.frozen_far ⟨w.heap.size + 1 + 1 + 1 + 1, 0, none⟩ (Old.lt (b := w.heap.size + 1 + 1 + 1 + 1)) (fun e => hne4 e.symm)).trans (by simp [go_sem, y4])
            try go_simp
            refine hK _ _ ?_
            clear hK K
            refine wpAny_ready (rs := [8]) (by kernel_rfl) (by simp) ?_
            refine AllReady.cons rfl (fun K hK => ?_) ?_
            go_simp
            refine hK _ _ ?_
            clear hK K
            refine wpAny_done (by kernel_rfl) ?_ _
            rotate_left
            exact AllReady.nil
            exact AllReady.nil
            exact AllReady.nil
            exact AllReady.nil
            refine AllReady.cons rfl (fun K hK => ?_) ?_
            go_simp
            go_at_call 14
            refine (hCt _).mono ?_
            rintro e Z ⟨rfl, cZ⟩
            have cZw : Chg Noth wr Z := Chg.trans (by repeat (with_reducible first | exact Chg.refl _ _ | refine chg_alloc ?_ _ | refine chg_drew ?_)) cZ (fun _ _ e => e)
            have z4 : Z.cell? ⟨w.heap.size + 1 + 1 + 1 + 1, 0, none⟩ = some (.slice A3 tl.length c3) := (cZw.cell (p := ⟨w.heap.size + 1 + 1 + 1 + 1, 0, none⟩) (Old.lt (b := w.heap.size + 1 + 1 + 1 + 1)) (fun e => e)).trans n4
            have z5 : Z.cell? ⟨w.heap.size + 1 + 1 + 1 + 1 + 1, 0, none⟩ = some (.int .i64 (ln : Int)) := (cZw.cell (p := ⟨w.heap.size + 1 + 1 + 1 + 1 + 1, 0, none⟩) (Old.lt (b := w.heap.size + 1 + 1 + 1 + 1 + 1)) (fun e => e)).trans n5
            have y4 : Z.frozen? ⟨w.heap.size + 1 + 1 + 1 + 1, 0, none⟩ = false := (cZw.frozen (p := ⟨w.heap.size + 1 + 1 + 1 + 1, 0, none⟩) (Old.lt (b := w.heap.size + 1 + 1 + 1 + 1)) (fun e => e)).trans f4
            have k4 : Old (w.heap.size + 1 + 1 + 1 + 1) Z := ⟨Nat.lt_of_lt_of_le (Old.lt (b := w.heap.size + 1 + 1 + 1 + 1) (W := wr)) cZw.size⟩
            try go_simp
            refine hK _ _ ?_
            clear hK K
            refine wpAny_take (i := 4) (v := ?_) rfl (by kernel_rfl) (by kernel_rfl) (by kernel_rfl) (fun _ _ _ h => h) (Or.inl ⟨by rfl, ?_⟩) ?_
            rotate_left
            · (intro w; go_simp; try with_reducible rfl)
            refine wpAny_ready (rs := [1]) (by kernel_rfl) (by simp) ?_
            refine AllReady.cons rfl (fun K hK => ?_) ?_
            go_simp
            refine hK _ _ ?_
            clear hK K
            refine wpAny_take (i := 5) (v := ?_) rfl (by kernel_rfl) (by kernel_rfl) (by kernel_rfl) (fun _ _ _ h => h) (Or.inl ⟨by rfl, ?_⟩) ?_
            rotate_left
            · (intro w; go_simp; try with_reducible rfl)
            refine wpAny_ready (rs := [6]) (by kernel_rfl) (by simp) ?_
            refine AllReady.cons rfl (fun K hK => ?_) ?_
            go_simp
            refine hK _ _ ?_
            clear hK K
            refine wpAny_ready (rs := [7]) (by kernel_rfl) (by simp) ?_
            refine AllReady.cons rfl (fun K hK => ?_) ?_
            refine step_append_lies _ rfl (.tmp 60) (.tmp 66) 29 rfl X.heap.size 33 i0 _ 4 40 Tryd.underlying29 hi0 hz0 hz1 hz2 rfl (by decide) (.slice A3 tl.length c3) tl.length (flT tl) rfl (own_chg (F := Noth) HS.out.out (chg_alloc cZw _) (fun _ _ e => e)) ⟨_, 0, none⟩ 1 1 [.int .i64 1, .string ⟨#[10]⟩, .int .i64 (ln : Int), .int .i64 (cn1 : Int)] rfl rfl (World.news_of_block (cs := #[.int .i64 1, .string ⟨#[10]⟩, .int .i64 (ln : Int), .int .i64 (cn1 : Int)]) (heap_alloc_new _ _)) (by intro u hu; simp at hu; rcases hu with rfl | rfl | rfl | rfl <;> rfl) (by omega) (by have := HB.out; simp only [maxLen]; omega) (by have := HB.out; omega) (by have := HS.out.sz; have := cZw.size; simp; omega) _ rfl ?_
            intro g' cap' w1 hown' hgrow hat hltg
            have x4' : w1.cell? ⟨w.heap.size + 1 + 1 + 1 + 1, 0, none⟩ = some (.slice A3 tl.length c3) := (hgrow.cell_far ⟨w.heap.size + 1 + 1 + 1 + 1, 0, none⟩ (Old.lt (b := w.heap.size + 1 + 1 + 1 + 1)) (fun e => hne4 e.symm)).trans (by simp [go_sem, z4])
            have f4' : w1.frozen? ⟨w.heap.size + 1 + 1 + 1 + 1, 0, none⟩ = false := (hgrow.frozen_far ⟨w.heap.size + 1 + 1 + 1 + 1, 0, none⟩ (Old.lt (b := w.heap.size + 1 + 1 + 1 + 1)) (fun e => hne4 e.symm)).trans (by simp [go_sem, y4])
            try go_simp
            refine hK _ _ ?_
            clear hK K
            refine wpAny_ready (rs := [8]) (by kernel_rfl) (by simp) ?_
            refine AllReady.cons rfl (fun K hK => ?_) ?_
            go_simp
            refine hK _ _ ?_
            clear hK K
            refine wpAny_done (by kernel_rfl) ?_ _
            rotate_left
            exact AllReady.nil
            exact AllReady.nil
            exact AllReady.nil
            exact AllReady.nil
            exact AllReady.nil
            refine AllReady.cons rfl (fun K hK => ?_) ?_
            go_simp
            refine hK _ _ ?_
            clear hK K
            refine wpAny_ready (rs := [0, 3]) (by kernel_rfl) (by simp) ?_
            refine AllReady.cons rfl (fun K hK => ?_) ?_
            go_simp
            refine hK _ _ ?_
            clear hK K
            refine wpAny_ready (rs := [3]) (by kernel_rfl) (by simp) ?_
            refine AllReady.cons rfl (fun K hK => ?_) ?_
            go_simp
            go_at_call 14
            refine (hCt _).mono ?_
            rintro e Z ⟨rfl, cZ⟩
            have cZw : Chg Noth wr Z := Chg.trans (by repeat (with_reducible first | exact Chg.refl _ _ | refine chg_alloc ?_ _ | refine chg_drew ?_)) cZ (fun _ _ e => e)
            have z4 : Z.cell? ⟨w.heap.size + 1 + 1 + 1 + 1, 0, none⟩ = some (.slice A3 tl.length c3) := (cZw.cell (p := ⟨w.heap.size + 1 + 1 + 1 + 1, 0, none⟩) (Old.lt (b := w.heap.size + 1 + 1 + 1 + 1)) (fun e => e)).trans n4
            have z5 : Z.cell? ⟨w.heap.size + 1 + 1 + 1 + 1 + 1, 0, none⟩ = some (.int .i64 (ln : Int)) := (cZw.cell (p := ⟨w.heap.size + 1 + 1 + 1 + 1 + 1, 0, none⟩) (Old.lt (b := w.heap.size + 1 + 1 + 1 + 1 + 1)) (fun e => e)).trans n5
            have y4 : Z.frozen? ⟨w.heap.size + 1 + 1 + 1 + 1, 0, none⟩ = false := (cZw.frozen (p := ⟨w.heap.size + 1 + 1 + 1 + 1, 0, none⟩) (Old.lt (b := w.heap.size + 1 + 1 + 1 + 1)) (fun e => e)).trans f4
            have k4 : Old (w.heap.size + 1 + 1 + 1 + 1) Z := ⟨Nat.lt_of_lt_of_le (Old.lt (b := w.heap.size + 1 + 1 + 1 + 1) (W := wr)) cZw.size⟩
            try go_simp
            refine hK _ _ ?_
            clear hK K
            refine wpAny_take (i := 4) (v := ?_) rfl (by kernel_rfl) (by kernel_rfl) (by kernel_rfl) (fun _ _ _ h => h) (Or.inl ⟨by rfl, ?_⟩) ?_
            rotate_left
            · (intro w; go_simp; try with_reducible rfl)
            refine wpAny_take (i := 5) (v := ?_) rfl (by kernel_rfl) (by kernel_rfl) (by kernel_rfl) (fun _ _ _ h => h) (Or.inl ⟨by rfl, ?_⟩) ?_
            rotate_left
            · (intro w; go_simp; try with_reducible rfl)
            refine wpAny_ready (rs := [6]) (by kernel_rfl) (by simp) ?_
            refine AllReady.cons rfl (fun K hK => ?_) ?_
            go_simp
            refine hK _ _ ?_
            clear hK K
            refine wpAny_ready (rs := [7]) (by kernel_rfl) (by simp) ?_
            refine AllReady.cons rfl (fun K hK => ?_) ?_
            refine step_append_lies _ rfl (.tmp 60) (.tmp 66) 29 rfl X.heap.size 33 i0 _ 4 40 Tryd.underlying29 hi0 hz0 hz1 hz2 rfl (by decide) (.slice A3 tl.length c3) tl.length (flT tl) rfl (own_chg (F := Noth) HS.out.out (chg_alloc cZw _) (fun _ _ e => e)) ⟨_, 0, none⟩ 1 1 [.int .i64 1, .string ⟨#[10]⟩, .int .i64 (ln : Int), .int .i64 (cn1 : Int)] rfl rfl (World.news_of_block (cs := #[.int .i64 1, .string ⟨#[10]⟩, .int .i64 (ln : Int), .int .i64 (cn1 : Int)]) (heap_alloc_new _ _)) (by intro u hu; simp at hu; rcases hu with rfl | rfl | rfl | rfl <;> rfl) (by omega) (by have := HB.out; simp only [maxLen]; omega) (by have := HB.out; omega) (by have := HS.out.sz; have := cZw.size; simp; omega) _ rfl ?_
            intro g' cap' w1 hown' hgrow hat hltg
            have x4' : w1.cell? ⟨w.heap.size + 1 + 1 + 1 + 1, 0, none⟩ = some (.slice A3 tl.length c3) := (hgrow.cell_far ⟨w.heap.size + 1 + 1 + 1 + 1, 0, none⟩ (Old.lt (b := w.heap.size + 1 + 1 + 1 + 1)) (fun e => hne4 e.symm)).trans (by simp [go_sem, z4])
            have f4' : w1.frozen? ⟨w.heap.size + 1 + 1 + 1 + 1, 0, none⟩ = false := (hgrow.frozen_far ⟨w.heap.size + 1 + 1 + 1 + 1, 0, none⟩ (Old.lt (b := w.heap.size + 1 + 1 + 1 + 1)) (fun e => hne4 e.symm)).trans (by simp [go_sem, y4])
            try go_simp
            refine hK _ _ ?_
            clear hK K
            refine wpAny_ready (rs := [8]) (by kernel_rfl) (by simp) ?_
            refine AllReady.cons rfl (fun K hK => ?_) ?_
            go_simp
            refine hK _ _ ?_
            clear hK K
            refine wpAny_done (by kernel_rfl) ?_ _
            rotate_left
            exact AllReady.nil
            exact AllReady.nil
            exact AllReady.nil
            exact AllReady.nil
            refine AllReady.cons rfl (fun K hK => ?_) ?_
            go_simp
            go_at_call 14
            refine (hCt _).mono ?_
            rintro e Z ⟨rfl, cZ⟩
            have cZw : Chg Noth wr Z := Chg.trans (by repeat (with_reducible first | exact Chg.refl _ _ | refine chg_alloc ?_ _ | refine chg_drew ?_)) cZ (fun _ _ e => e)
            have z4 : Z.cell? ⟨w.heap.size + 1 + 1 + 1 + 1, 0, none⟩ = some (.slice A3 tl.length c3) := (cZw.cell (p := ⟨w.heap.size + 1 + 1 + 1 + 1, 0, none⟩) (Old.lt (b := w.heap.size + 1 + 1 + 1 + 1)) (fun e => e)).trans n4
            have z5 : Z.cell? ⟨w.heap.size + 1 + 1 + 1 + 1 + 1, 0, none⟩ = some (.int .i64 (ln : Int)) := (cZw.cell (p := ⟨w.heap.size + 1 + 1 + 1 + 1 + 1, 0, none⟩) (Old.lt (b := w.heap.size + 1 + 1 + 1 + 1 + 1)) (fun e => e)).trans n5
            have y4 : Z.frozen? ⟨w.heap.size + 1 + 1 + 1 + 1, 0, none⟩ = false := (cZw.frozen (p := ⟨w.heap.size + 1 + 1 + 1 + 1, 0, none⟩) (Old.lt (b := w.heap.size + 1 + 1 + 1 + 1)) (fun e => e)).trans f4
            have k4 : Old (w.heap.size + 1 + 1 + 1 + 1) Z := ⟨Nat.lt_of_lt_of_le (Old.lt (b := w.heap.size + 1 + 1 + 1 + 1) (W := wr)) cZw.size⟩
            try go_simp
            refine hK _ _ ?_
            clear hK K
            refine wpAny_take (i := 4) (v := ?_) rfl (by kernel_rfl) (by kernel_rfl) (by kernel_rfl) (fun _ _ _ h => h) (Or.inl ⟨by rfl, ?_⟩) ?_
            rotate_left
            · (intro w; go_simp; try with_reducible rfl)
            refine wpAny_take (i := 5) (v := ?_) rfl (by kernel_rfl) (by kernel_rfl) (by kernel_rfl) (fun _ _ _ h => h) (Or.inl ⟨by rfl, ?_⟩) ?_
            rotate_left
            · (intro w; go_simp; try with_reducible rfl)
            refine wpAny_ready (rs := [0, 6]) (by kernel_rfl) (by simp) ?_
            refine AllReady.cons rfl (fun K hK => ?_) ?_
            go_simp
            refine hK _ _ ?_
            clear hK K
            refine wpAny_ready (rs := [6]) (by kernel_rfl) (by simp) ?_
            refine AllReady.cons rfl (fun K hK => ?_) ?_
            go_simp
            refine hK _ _ ?_
            clear hK K
            refine wpAny_ready (rs := [7]) (by kernel_rfl) (by simp) ?_
            refine AllReady.cons rfl (fun K hK => ?_) ?_
            refine step_append_lies _ rfl (.tmp 60) (.tmp 66) 29 rfl X.heap.size 33 i0 _ 4 40 Tryd.underlying29 hi0 hz0 hz1 hz2 rfl (by decide) (.slice A3 tl.length c3) tl.length (flT tl) rfl (own_chg (F := Noth) HS.out.out (chg_alloc cZw _) (fun _ _ e => e)) ⟨_, 0, none⟩ 1 1 [.int .i64 1, .string ⟨#[10]⟩, .int .i64 (ln : Int), .int .i64 (cn1 : Int)] rfl rfl (World.news_of_block (cs := #[.int .i64 1, .string ⟨#[10]⟩, .int .i64 (ln : Int), .int .i64 (cn1 : Int)]) (heap_alloc_new _ _)) (by intro u hu; simp at hu; rcases hu with rfl | rfl | rfl | rfl <;> rfl) (by omega) (by have := HB.out; simp only [maxLen]; omega) (by have := HB.out; omega) (by have := HS.out.sz; have := cZw.size; simp; omega) _ rfl ?_
            intro g' cap' w1 hown' hgrow hat hltg
            have x4' : w1.cell? ⟨w.heap.size + 1 + 1 + 1 + 1, 0, none⟩ = some (.slice A3 tl.length c3) := (hgrow.cell_far ⟨w.heap.size + 1 + 1 + 1 + 1, 0, none⟩ (Old.lt (b := w.heap.size + 1 + 1 + 1 + 1)) (fun e => hne4 e.symm)).trans (by simp [go_sem, z4])
            have f4' : w1.frozen? ⟨w.heap.size + 1 + 1 + 1 + 1, 0, none⟩ = false := (hgrow.frozen_far ⟨w.heap.size + 1 + 1 + 1 + 1, 0, none⟩ (Old.lt (b := w.heap.size + 1 + 1 + 1 + 1)) (fun e => hne4 e.symm)).trans (by simp [go_sem, y4])
            try go_simp
            refine hK _ _ ?_
            clear hK K
            refine wpAny_ready (rs := [8]) (by kernel_rfl) (by simp) ?_
            refine AllReady.cons rfl (fun K hK => ?_) ?_
            go_simp
            refine hK _ _ ?_
            clear hK K
            refine wpAny_done (by kernel_rfl) ?_ _
            rotate_left
            exact AllReady.nil
            exact AllReady.nil
            exact AllReady.nil
            refine AllReady.cons rfl (fun K hK => ?_) ?_
            go_simp
            refine hK _ _ ?_
            clear hK K
            refine wpAny_ready (rs := [0]) (by kernel_rfl) (by simp) ?_
            refine AllReady.cons rfl (fun K hK => ?_) ?_
            go_simp
            refine hK _ _ ?_
            clear hK K
            refine wpAny_ready (rs := [7]) (by kernel_rfl) (by simp) ?_
            refine AllReady.cons rfl (fun K hK => ?_) ?_
            refine step_append_lies _ rfl (.tmp 60) (.tmp 66) 29 rfl X.heap.size 33 i0 _ 4 40 Tryd.underlying29 hi0 hz0 hz1 hz2 rfl (by decide) (.slice A3 tl.length c3) tl.length (flT tl) rfl (own_chg (F := Noth) HS.out.out (chg_alloc cZw _) (fun _ _ e => e)) ⟨_, 0, none⟩ 1 1 [.int .i64 1, .string ⟨#[10]⟩, .int .i64 (ln : Int), .int .i64 (cn1 : Int)] rfl rfl (World.news_of_block (cs := #[.int .i64 1, .string ⟨#[10]⟩, .int .i64 (ln : Int), .int .i64 (cn1 : Int)]) (heap_alloc_new _ _)) (by intro u hu; simp at hu; rcases hu with rfl | rfl | rfl | rfl <;> rfl) (by omega) (by have := HB.out; simp only [maxLen]; omega) (by have := HB.out; omega) (by have := HS.out.sz; have := cZw.size; simp; omega) _ rfl ?_
            intro g' cap' w1 hown' hgrow hat hltg
            have x4' : w1.cell? ⟨w.heap.size + 1 + 1 + 1 + 1, 0, none⟩ = some (.slice A3 tl.length c3) := (hgrow.cell_far ⟨w.heap.size + 1 + 1 + 1 + 1, 0, none⟩ (Old.lt (b := w.heap.size + 1 + 1 + 1 + 1)) (fun e => hne4 e.symm)).trans (by simp [go_sem, z4])
            have f4' : w1.frozen? ⟨w.heap.size + 1 + 1 + 1 + 1, 0, none⟩ = false := (hgrow.frozen_far ⟨w.heap.size + 1 + 1 + 1 + 1, 0, none⟩ (Old.lt (b := w.heap.size + 1 + 1 + 1 + 1)) (fun e => hne4 e.symm)).trans (by simp [go_sem, y4])
            try go_simp
            refine hK _ _ ?_
            clear hK K
            refine wpAny_ready (rs := [8]) (by kernel_rfl) (by simp) ?_
            refine AllReady.cons rfl (fun K hK => ?_) ?_
            go_simp
            refine hK _ _ ?_
            clear hK K
            refine wpAny_done (by kernel_rfl) ?_ _
            rotate_left
            exact AllReady.nil
            exact AllReady.nil
            exact AllReady.nil
            exact AllReady.nil
            exact AllReady.nil
            refine AllReady.cons rfl (fun K hK => ?_) ?_
            go_simp
            go_at_call 14
            refine (hCt _).mono ?_
            rintro e Z ⟨rfl, cZ⟩
            have cZw : Chg Noth wr Z := Chg.trans (by repeat (with_reducible first | exact Chg.refl _ _ | refine chg_alloc ?_ _ | refine chg_drew ?_)) cZ (fun _ _ e => e)
            have z4 : Z.cell? ⟨w.heap.size + 1 + 1 + 1 + 1, 0, none⟩ = some (.slice A3 tl.length c3) := (cZw.cell (p := ⟨w.heap.size + 1 + 1 + 1 + 1, 0, none⟩) (Old.lt (b := w.heap.size + 1 + 1 + 1 + 1)) (fun e => e)).trans n4
            have z5 : Z.cell? ⟨w.heap.size + 1 + 1 + 1 + 1 + 1, 0, none⟩ = some (.int .i64 (ln : Int)) := (cZw.cell (p := ⟨w.heap.size + 1 + 1 + 1 + 1 + 1, 0, none⟩) (Old.lt (b := w.heap.size + 1 + 1 + 1 + 1 + 1)) (fun e => e)).trans n5
            have y4 : Z.frozen? ⟨w.heap.size + 1 + 1 + 1 + 1, 0, none⟩ = false := (cZw.frozen (p := ⟨w.heap.size + 1 + 1 + 1 + 1, 0, none⟩) (Old.lt (b := w.heap.size + 1 + 1 + 1 + 1)) (fun e => e)).trans f4
            have k4 : Old (w.heap.size + 1 + 1 + 1 + 1) Z := ⟨Nat.lt_of_lt_of_le (Old.lt (b := w.heap.size + 1 + 1 + 1 + 1) (W := wr)) cZw.size⟩
            try go_simp
            refine hK _ _ ?_
            clear hK K
            refine wpAny_take (i := 4) (v := ?_) rfl (by kernel_rfl) (by kernel_rfl) (by kernel_rfl) (fun _ _ _ h => h) (Or.inl ⟨by rfl, ?_⟩) ?_
            rotate_left
            · (intro w; go_simp; try with_reducible rfl)
            refine wpAny_ready (rs := [0, 1]) (by kernel_rfl) (by simp) ?_
            refine AllReady.cons rfl (fun K hK => ?_) ?_
            go_simp
            refine hK _ _ ?_
            clear hK K
            refine wpAny_ready (rs := [1]) (by kernel_rfl) (by simp) ?_
            refine AllReady.cons rfl (fun K hK => ?_) ?_
            go_simp
            refine hK _ _ ?_
            clear hK K
            refine wpAny_take (i := 5) (v := ?_) rfl (by kernel_rfl) (by kernel_rfl) (by kernel_rfl) (fun _ _ _ h => h) (Or.inl ⟨by rfl, ?_⟩) ?_
            rotate_left
            · (intro w; go_simp; try with_reducible rfl)
            refine wpAny_ready (rs := [6]) (by kernel_rfl) (by simp) ?_
            refine AllReady.cons rfl (fun K hK => ?_) ?_
            go_simp
            refine hK _ _ ?_
            clear hK K
            refine wpAny_ready (rs := [7]) (by kernel_rfl) (by simp) ?_
            refine AllReady.cons rfl (fun K hK => ?_) ?_
            refine step_append_lies _ rfl (.tmp 60) (.tmp 66) 29 rfl X.heap.size 33 i0 _ 4 40 Tryd.underlying29 hi0 hz0 hz1 hz2 rfl (by decide) (.slice A3 tl.length c3) tl.length (flT tl) rfl (own_chg (F := Noth) HS.out.out (chg_alloc cZw _) (fun _ _ e => e)) ⟨_, 0, none⟩ 1 1 [.int .i64 1, .string ⟨#[10]⟩, .int .i64 (ln : Int), .int .i64 (cn1 : Int)] rfl rfl (World.news_of_block (cs := #[.int .i64 1, .string ⟨#[10]⟩, .int .i64 (ln : Int), .int .i64 (cn1 : Int)]) (heap_alloc_new _ _)) (by intro u hu; simp at hu; rcases hu with rfl | rfl | rfl | rfl <;> rfl) (by omega) (by have := HB.out; simp only [maxLen]; omega) (by have := HB.out; omega) (by have := HS.out.sz; have := cZw.size; simp; omega) _ rfl ?_
            intro g' cap' w1 hown' hgrow hat hltg
            have x4' : w1.cell? ⟨w.heap.size + 1 + 1 + 1 + 1, 0, none⟩ = some (.slice A3 tl.length c3) := (hgrow.cell_far ⟨w.heap.size + 1 + 1 + 1 + 1, 0, none⟩ (Old.lt (b := w.heap.size + 1 + 1 + 1 + 1)) (fun e => hne4 e.symm)).trans (by simp [go_sem, z4])
            have f4' : w1.frozen? ⟨w.heap.size + 1 + 1 + 1 + 1, 0, none⟩ = false := (hgrow.frozen_far ⟨w.heap.size + 1 + 1 + 1 + 1, 0, none⟩ (Old.lt (b := w.heap.size + 1 + 1 + 1 + 1)) (fun e => hne4 e.symm)).trans (by simp [go_sem, y4])
            try go_simp
            refine hK _ _ ?_
            clear hK K
            refine wpAny_ready (rs := [8]) (by kernel_rfl) (by simp) ?_
            refine AllReady.cons rfl (fun K hK => ?_) ?_
            go_simp
            refine hK _ _ ?_
            clear hK K
            refine wpAny_done (by kernel_rfl) ?_ _
            rotate_left
            exact AllReady.nil
            exact AllReady.nil
            exact AllReady.nil
            exact AllReady.nil
            refine AllReady.cons rfl (fun K hK => ?_) ?_
            go_simp
            refine hK _ _ ?_
            clear hK K
            refine wpAny_take (i := 5) (v := ?_) rfl (by kernel_rfl) (by kernel_rfl) (by kernel_rfl) (fun _ _ _ h => h) (Or.inl ⟨by rfl, ?_⟩) ?_
            rotate_left
            · (intro w; go_simp; try with_reducible rfl)
            refine wpAny_ready (rs := [0, 6]) (by kernel_rfl) (by simp) ?_
            refine AllReady.cons rfl (fun K hK => ?_) ?_
            go_simp
            refine hK _ _ ?_
            clear hK K
            refine wpAny_ready (rs := [6]) (by kernel_rfl) (by simp) ?_
            refine AllReady.cons rfl (fun K hK => ?_) ?_
            go_simp
            refine hK _ _ ?_
            clear hK K
            refine wpAny_ready (rs := [7]) (by kernel_rfl) (by simp) ?_
            refine AllReady.cons rfl (fun K hK => ?_) ?_
            refine step_append_lies _ rfl (.tmp 60) (.tmp 66) 29 rfl X.heap.size 33 i0 _ 4 40 Tryd.underlying29 hi0 hz0 hz1 hz2 rfl (by decide) (.slice A3 tl.length c3) tl.length (flT tl) rfl (own_chg (F := Noth) HS.out.out (chg_alloc cZw _) (fun _ _ e => e)) ⟨_, 0, none⟩ 1 1 [.int .i64 1, .string ⟨#[10]⟩, .int .i64 (ln : Int), .int .i64 (cn1 : Int)] rfl rfl (World.news_of_block (cs := #[.int .i64 1, .string ⟨#[10]⟩, .int .i64 (ln : Int), .int .i64 (cn1 : Int)]) (heap_alloc_new _ _)) (by intro u hu; simp at hu; rcases hu with rfl | rfl | rfl | rfl <;> rfl) (by omega) (by have := HB.out; simp only [maxLen]; omega) (by have := HB.out; omega) (by have := HS.out.sz; have := cZw.size; simp; omega) _ rfl ?_
            intro g' cap' w1 hown' hgrow hat hltg
            have x4' : w1.cell? ⟨w.heap.size + 1 + 1 + 1 + 1, 0, none⟩ = some (.slice A3 tl.length c3) := (hgrow.cell_far ⟨w.heap.size + 1 + 1 + 1 + 1, 0, none⟩ (Old.lt (b := w.heap.size + 1 + 1 + 1 + 1)) (fun e => hne4 e.symm)).trans (by simp [go_sem, z4])
            have f4' : w1.frozen? ⟨w.heap.size + 1 + 1 + 1 + 1, 0, none⟩ = false := (hgrow.frozen_far ⟨w.heap.size + 1 + 1 + 1 + 1, 0, none⟩ (Old.lt (b := w.heap.size + 1 + 1 + 1 + 1)) (fun e => hne4 e.symm)).trans (by simp [go_sem, y4])
            try go_simp
            refine hK _ _ ?_
            clear hK K
            refine wpAny_ready (rs := [8]) (by kernel_rfl) (by simp) ?_
            refine AllReady.cons rfl (fun K hK => ?_) ?_
            go_simp
            refine hK _ _ ?_
            clear hK K
            refine wpAny_done (by kernel_rfl) ?_ _
            rotate_left
            exact AllReady.nil
            exact AllReady.nil
            exact AllReady.nil
            refine AllReady.cons rfl (fun K hK => ?_) ?_
            go_simp
            refine hK _ _ ?_
            clear hK K
            refine wpAny_ready (rs := [0]) (by kernel_rfl) (by simp) ?_
            refine AllReady.cons rfl (fun K hK => ?_) ?_
            go_simp
            refine hK _ _ ?_
            clear hK K
            refine wpAny_ready (rs := [7]) (by kernel_rfl) (by simp) ?_
            refine AllReady.cons rfl (fun K hK => ?_) ?_
            refine step_append_lies _ rfl (.tmp 60) (.tmp 66) 29 rfl X.heap.size 33 i0 _ 4 40 Tryd.underlying29 hi0 hz0 hz1 hz2 rfl (by decide) (.slice A3 tl.length c3) tl.length (flT tl) rfl (own_chg (F := Noth) HS.out.out (chg_alloc cZw _) (fun _ _ e => e)) ⟨_, 0, none⟩ 1 1 [.int .i64 1, .string ⟨#[10]⟩, .int .i64 (ln : Int), .int .i64 (cn1 : Int)] rfl rfl (World.news_of_block (cs := #[.int .i64 1, .string ⟨#[10]⟩, .int .i64 (ln : Int), .int .i64 (cn1 : Int)]) (heap_alloc_new _ _)) (by intro u hu; simp at hu; rcases hu with rfl | rfl | rfl | rfl <;> rfl) (by omega) (by have := HB.out; simp only [maxLen]; omega) (by have := HB.out; omega) (by have := HS.out.sz; have := cZw.size; simp; omega) _ rfl ?_
            intro g' cap' w1 hown' hgrow hat hltg
            have x4' : w1.cell? ⟨w.heap.size + 1 + 1 + 1 + 1, 0, none⟩ = some (.slice A3 tl.length c3) := (hgrow.cell_far ⟨w.heap.size + 1 + 1 + 1 + 1, 0, none⟩ (Old.lt (b := w.heap.size + 1 + 1 + 1 + 1)) (fun e => hne4 e.symm)).trans (by simp [go_sem, z4])
            have f4' : w1.frozen? ⟨w.heap.size + 1 + 1 + 1 + 1, 0, none⟩ = false := (hgrow.frozen_far ⟨w.heap.size + 1 + 1 + 1 + 1, 0, none⟩ (Old.lt (b := w.heap.size + 1 + 1 + 1 + 1)) (fun e => hne4 e.symm)).trans (by simp [go_sem, y4])
            try go_simp
            refine hK _ _ ?_
            clear hK K
            refine wpAny_ready (rs := [8]) (by kernel_rfl) (by simp) ?_
            refine AllReady.cons rfl (fun K hK => ?_) ?_
            go_simp
            refine hK _ _ ?_
            clear hK K
            refine wpAny_done (by kernel_rfl) ?_ _
            rotate_left
            exact AllReady.nil
            exact AllReady.nil
            exact AllReady.nil
            exact AllReady.nil
            exact AllReady.nil
            exact AllReady.nil
            all_goals
              have hP := HS.out.push (chg_alloc cZw _) hgrow ⟨1, [10], cn1⟩ _ rfl hown' (fun q hq => by
                rcases hat with e | e
                · exact .inl (e.trans (by simpa [Value.ownBlock] using hq))
                · right
                  simp [Value.ownBlock] at hq
                  omega)
              clear hgrow hown' hat hltg cZ cZw
              gi_wp2
              have hne : ws ≠ [] := fun e => by have := HN.out.2.2; rw [e] at this; simp at this
              have e : toks (rows ++ [(pre.length + 1, ws, cnt x)]) = tl ++ [(ln, ⟨1, [10], cn1⟩)] := by
                rw [← HT.out, toks_append, HN.out.1, ← HN.out.2.1, HLN.out]
                simp [toks, hne]
              refine ⟨hP.keep, hP.kps, hP.sz, hP.chg, hP.r2, hP.r3, hP.r4, hP.r5, by rw [show ((pre ++ [x]).length : Int) = (ln : Int) by rw [← HLN.out]; simp]; exact hP.no, _, _, scanB_ok HR.out.2.1 HR.out.1, hP.outc, ?_, ?_⟩
              · rw [e]
                exact hP.out
              · rw [e, ← HT.out]
                have h1 := HR.out.2.2.1
                have h2 := HR.out.2.2.2.1
                have h5 : ws.length + 1 ≤ 1 * 70000 := by omega
                rw [List.length_append, List.length_append, List.length_append, List.length_map, List.length_singleton, List.length_singleton, Nat.add_mul, Nat.add_assoc]
                exact Nat.add_le_add h1 h5
          · have x2 : decide (0 < ws.length) = false := decide_eq_false hemp
            gi_wp2
            have hw0 : ws = [] := List.eq_nil_of_length_eq_zero (by omega)
            subst hw0
            have S := HS.out
            refine ⟨S.keep, S.kps, S.sz, S.chg, S.r2, S.r3, S.r4, S.r5, by rw [show ((pre ++ [x]).length : Int) = (ln : Int) by rw [← HLN.out]; simp]; exact S.no, _, _, scanB_ok HR.out.2.1 HR.out.1, S.outc, ?_, ?_⟩
            · have e : toks (rows ++ [(pre.length + 1, [], cnt x)]) = tl := by rw [← HT.out, toks_append]; simp [toks]
              rw [e]
              exact S.out
            · have e : toks (rows ++ [(pre.length + 1, [], cnt x)]) = tl := by rw [← HT.out, toks_append]; simp [toks]
              have := HR.out.2.2.1
              rw [e, ← HT.out, List.map_nil, List.append_nil, List.length_append, List.length_singleton, Nat.add_mul]
              exact Nat.le_trans this (Nat.le_add_right _ _)

  case done =>
    rintro D xs W hD rfl hi hK
    obtain ⟨rows, v2, hrows, h4, ho4, hlen⟩ := hi.out
    obtain ⟨A1, cap1, rfl⟩ := own_shape ho4
    obtain ⟨nn, hnn⟩ : ∃ nn, (toks rows).length = nn := ⟨_, rfl⟩
    rw [hnn] at h4 ho4
    have HN := Lib.hid hnn
    clear hnn
    have x4 : W.cell? ⟨w.heap.size + 1 + 1 + 1 + 1, 0, none⟩ = some (.slice A1 nn cap1) := by rw [cell_of_row _ _ 0 _ _ _ h4]; rfl
    have x2 : W.cell? ⟨w.heap.size, 0, none⟩ = some (.slice none 0 0) := by rw [cell_of_row _ _ 0 _ _ _ hi.r2]; rfl
    have f2 : W.frozen? ⟨w.heap.size, 0, none⟩ = false := frozen_of_row _ _ 0 _ _ hi.r2
    have x3 : W.cell? ⟨w.heap.size + 1, 0, none⟩ = some (.int .i64 0) := by rw [cell_of_row _ _ 0 _ _ _ hi.r3]; rfl
    have f3 : W.frozen? ⟨w.heap.size + 1, 0, none⟩ = false := frozen_of_row _ _ 0 _ _ hi.r3
    have x5 : W.cell? ⟨w.heap.size + 1 + 1, 0, none⟩ = some (.int .i64 0) := by rw [cell_of_row _ _ 0 _ _ _ hi.r4]; rfl
    have f5 : W.frozen? ⟨w.heap.size + 1 + 1, 0, none⟩ = false := frozen_of_row _ _ 0 _ _ hi.r4
    have x6 : W.cell? ⟨w.heap.size + 1 + 1 + 1, 0, none⟩ = some (.int .i64 0) := by rw [cell_of_row _ _ 0 _ _ _ hi.r5]; rfl
    have f6 : W.frozen? ⟨w.heap.size + 1 + 1 + 1, 0, none⟩ = false := frozen_of_row _ _ 0 _ _ hi.r5
    have HM := Lib.hid (And.intro hrows (And.intro hlen (And.intro hi (And.intro hK (And.intro h4 ho4)))))
    clear hrows hlen hi hK h4 ho4
    gi_wp2
    have hZ : Chg (fun k => w.heap.size ≤ k ∧ k ≤ w.heap.size + 1 + 1 + 1) W ((((W.setCell ⟨w.heap.size, 0, none⟩ (.slice A1 nn cap1)).setCell ⟨w.heap.size + 1, 0, none⟩ (.int .i64 0)).setCell ⟨w.heap.size + 1 + 1, 0, none⟩ (.int .i64 0)).setCell ⟨w.heap.size + 1 + 1 + 1, 0, none⟩ (.int .i64 0)) := by
      have i0 : May (w.heap.size) (fun k => w.heap.size ≤ k ∧ k ≤ w.heap.size + 1 + 1 + 1) W := ⟨.inl ⟨by omega, by omega⟩⟩
      have i1 : May (w.heap.size + 1) (fun k => w.heap.size ≤ k ∧ k ≤ w.heap.size + 1 + 1 + 1) W := ⟨.inl ⟨by omega, by omega⟩⟩
      have i2 : May (w.heap.size + 1 + 1) (fun k => w.heap.size ≤ k ∧ k ≤ w.heap.size + 1 + 1 + 1) W := ⟨.inl ⟨by omega, by omega⟩⟩
      have i3 : May (w.heap.size + 1 + 1 + 1) (fun k => w.heap.size ≤ k ∧ k ≤ w.heap.size + 1 + 1 + 1) W := ⟨.inl ⟨by omega, by omega⟩⟩
      exact chg_set (chg_set (chg_set (chg_set (Chg.refl _ _) _ _ _) _ _ _) _ _ _) _ _ _
    have q2 : ((((W.setCell ⟨w.heap.size, 0, none⟩ (.slice A1 nn cap1)).setCell ⟨w.heap.size + 1, 0, none⟩ (.int .i64 0)).setCell ⟨w.heap.size + 1 + 1, 0, none⟩ (.int .i64 0)).setCell ⟨w.heap.size + 1 + 1 + 1, 0, none⟩ (.int .i64 0)).heap[w.heap.size]? = some (.cells #[(.slice A1 nn cap1)] 29 (0, 0)) := by
      rw [heap_set_far _ _ _ _ (by omega), heap_set_far _ _ _ _ (by omega), heap_set_far _ _ _ _ (by omega)]
      exact heap_setCell_same W _ 0 _ _ _ HM.out.2.2.1.r2
    have q3 : ((((W.setCell ⟨w.heap.size, 0, none⟩ (.slice A1 nn cap1)).setCell ⟨w.heap.size + 1, 0, none⟩ (.int .i64 0)).setCell ⟨w.heap.size + 1 + 1, 0, none⟩ (.int .i64 0)).setCell ⟨w.heap.size + 1 + 1 + 1, 0, none⟩ (.int .i64 0)).heap[w.heap.size + 1]? = some (.cells #[.int .i64 0] 25 (0, 0)) := by
      rw [heap_set_far _ _ _ _ (by omega), heap_set_far _ _ _ _ (by omega)]
      exact heap_setCell_same _ _ 0 _ _ _ ((heap_set_far _ _ _ _ (by omega)).trans HM.out.2.2.1.r3)
    have q4 : ((((W.setCell ⟨w.heap.size, 0, none⟩ (.slice A1 nn cap1)).setCell ⟨w.heap.size + 1, 0, none⟩ (.int .i64 0)).setCell ⟨w.heap.size + 1 + 1, 0, none⟩ (.int .i64 0)).setCell ⟨w.heap.size + 1 + 1 + 1, 0, none⟩ (.int .i64 0)).heap[w.heap.size + 1 + 1]? = some (.cells #[.int .i64 0] 3 (0, 0)) := by
      rw [heap_set_far _ _ _ _ (by omega)]
      exact heap_setCell_same _ _ 0 _ _ _ ((heap_set_far _ _ _ _ (by omega)).trans ((heap_set_far _ _ _ _ (by omega)).trans HM.out.2.2.1.r4))
    have q5 : ((((W.setCell ⟨w.heap.size, 0, none⟩ (.slice A1 nn cap1)).setCell ⟨w.heap.size + 1, 0, none⟩ (.int .i64 0)).setCell ⟨w.heap.size + 1 + 1, 0, none⟩ (.int .i64 0)).setCell ⟨w.heap.size + 1 + 1 + 1, 0, none⟩ (.int .i64 0)).heap[w.heap.size + 1 + 1 + 1]? = some (.cells #[.int .i64 0] 3 (0, 0)) :=
      heap_setCell_same _ _ 0 _ _ _ ((heap_set_far _ _ _ _ (by omega)).trans ((heap_set_far _ _ _ _ (by omega)).trans ((heap_set_far _ _ _ _ (by omega)).trans HM.out.2.2.1.r5)))
    generalize (((W.setCell ⟨w.heap.size, 0, none⟩ (.slice A1 nn cap1)).setCell ⟨w.heap.size + 1, 0, none⟩ (.int .i64 0)).setCell ⟨w.heap.size + 1 + 1, 0, none⟩ (.int .i64 0)).setCell ⟨w.heap.size + 1 + 1 + 1, 0, none⟩ (.int .i64 0) = W2 at *
    have hK2 : W2.heap[D]? = some (.deferred (some [])) := hZ.heap_at HM.out.2.2.2.1 (by omega)
    have hgr := grownBy_putObj' W2 D (.deferred none)
    have hnc : ∀ r, some D = some r → ∃ o : Obj, W2.heap[r]? = some o ∧ o.isCells = false := fun r e => by cases e; exact ⟨_, hK2, rfl⟩
    have e2 := blkK q2 hgr hnc
    have e3 := blkK q3 hgr hnc
    have e4 := blkK q4 hgr hnc
    have e5 := blkK q5 hgr hnc
    have hrow := rowK (own_chg HM.out.2.2.2.2.2 hZ fun k hk e => by have := (HM.out.2.2.2.2.2.lt k hk).1; omega) hgr hnc
    refine ⟨by simp, .inl ⟨_, _, rfl, run_takeDeferred hK2, ?_⟩⟩
    have hch : Chg Noth w (W2.putObj D (.deferred none)) := (HM.out.2.2.1.chg.trans hZ (fun k hk e => by omega)).trans (Chg.of_grown hgr) fun k hk e => by cases e; omega
    generalize W2.putObj D (.deferred none) = W3 at *
    have z2 : W3.cell? ⟨w.heap.size, 0, none⟩ = some (.slice A1 nn cap1) := by rw [cell_of_row _ _ 0 _ _ _ e2]; rfl
    have z3 : W3.cell? ⟨w.heap.size + 1, 0, none⟩ = some (.int .i64 0) := by rw [cell_of_row _ _ 0 _ _ _ e3]; rfl
    have z4 : W3.cell? ⟨w.heap.size + 1 + 1, 0, none⟩ = some (.int .i64 0) := by rw [cell_of_row _ _ 0 _ _ _ e4]; rfl
    have z5 : W3.cell? ⟨w.heap.size + 1 + 1 + 1, 0, none⟩ = some (.int .i64 0) := by rw [cell_of_row _ _ 0 _ _ _ e5]; rfl
    refine ⟨.tuple #[(.slice A1 nn cap1), .int .i64 0, .int .i64 0, .int .i64 0], by simp [results, Tryd.results7, go_sem, z2, z3, z4, z5], ?_⟩
    have hll := linesB_len t
    rw [← HN.out] at hrow ⊢
    rw [HM.out.1]
    exact ⟨_, rfl, hch, own_base hrow (by omega), by have := HM.out.2.1; have : (linesB t).length * 70000 ≤ 65537 * 70000 := Nat.mul_le_mul_right _ (by omega); omega⟩
  case stop =>
    rintro D c pre W hD ⟨rest, hpre⟩ ⟨rfl, hch, hsz, er, ln, col, herr, h2, h3, h4, h5⟩ hK
    have herr := herr rest
    rw [hpre] at herr
    have HK := Lib.hid hK
    have HE := Lib.hid herr
    clear hK herr hpre
    gi_wp2
    have hgr := grownBy_putObj' W D (.deferred none)
    have hnc : ∀ r, some D = some r → ∃ o : Obj, W.heap[r]? = some o ∧ o.isCells = false := fun r e => by cases e; exact ⟨_, HK.out, rfl⟩
    have e2 := blkK h2 hgr hnc
    have e3 := blkK h3 hgr hnc
    have e4 := blkK h4 hgr hnc
    have e5 := blkK h5 hgr hnc
    refine ⟨by simp, .inl ⟨_, _, rfl, run_takeDeferred HK.out, ?_⟩⟩
    have hch : Chg Noth w (W.putObj D (.deferred none)) := hch.trans (Chg.of_grown hgr) fun k hk e => by cases e; omega
    generalize W.putObj D (.deferred none) = W3 at *
    have z2 : W3.cell? ⟨w.heap.size, 0, none⟩ = some (.slice none 0 0) := by rw [cell_of_row _ _ 0 _ _ _ e2]; rfl
    have z3 : W3.cell? ⟨w.heap.size + 1, 0, none⟩ = some (.int .i64 er) := by rw [cell_of_row _ _ 0 _ _ _ e3]; rfl
    have z4 : W3.cell? ⟨w.heap.size + 1 + 1, 0, none⟩ = some (.int .i64 (ln : Int)) := by rw [cell_of_row _ _ 0 _ _ _ e4]; rfl
    have z5 : W3.cell? ⟨w.heap.size + 1 + 1 + 1, 0, none⟩ = some (.int .i64 (col : Int)) := by rw [cell_of_row _ _ 0 _ _ _ e5]; rfl
    refine ⟨.tuple #[.slice none 0 0, .int .i64 er, .int .i64 (ln : Int), .int .i64 (col : Int)], by simp [results, Tryd.results7, go_sem, z2, z3, z4, z5], ?_⟩
    rw [HE.out]
    exact ⟨rfl, hch⟩
end Go.Proofs.YtkamjhhaghkdmaaDoor
