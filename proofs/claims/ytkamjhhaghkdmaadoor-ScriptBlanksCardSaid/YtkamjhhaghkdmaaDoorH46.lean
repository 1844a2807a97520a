/- script: all lines read: what a round keeps. -/
import Derived.Test.YtkamjhhaghkdmaaDoorH45
namespace Go.Ear
set_option linter.unusedSimpArgs false
set_option linter.unusedVariables false
/-- What the lines say. -/
def parseRows (fr : List (Nat × List Wd)) : Except (Int × Nat) (List UInt8 × Int × List StepS) := match fr with
  | [] => .error (200, 0)
  | (no, ws) :: r => match headS ws with
    | .error e => .error (e, no)
    | .ok (b, l, f) => match stepsF l r [] with
      | .error e => .error e
      | .ok st => .ok (b, f, st)
theorem parse_rows (t : List UInt8) : parse t = match scan t with
    | .error (e, no, _) => .error (e, no)
    | .ok rows => parseRows (full rows) := by
  unfold parse
  cases scan t with
  | error e => rfl
  | ok rows =>
    simp only
    unfold parseRows
    cases full rows with
    | nil => rfl
    | cons x r => rfl
/-- What the first k lines have said. -/
def StK (fr : List (Nat × List Wd)) (k : Nat) (b : List UInt8) (l : List Int) (f : Int) (L : List StepS) : Prop := ∃ no ws r, fr = (no, ws) :: r ∧ headS ws = .ok (b, l, f) ∧ stepsF l (r.take (k - 1)) [] = .ok L
theorem StK.first {fr : List (Nat × List Wd)} {no : Nat} {ws : List Wd} (h0 : fr[0]? = some (no, ws)) : (∀ er, headS ws = .error er → parseRows fr = .error (er, no)) ∧ ∀ b l f, headS ws = .ok (b, l, f) → StK fr 1 b l f [] := by
  cases fr with
  | nil => simp at h0
  | cons x r =>
    simp only [List.getElem?_cons_zero, Option.some.injEq] at h0
    subst h0
    exact ⟨fun er h => by simp only [parseRows, h], fun b l f h => ⟨no, ws, r, rfl, h, rfl⟩⟩
theorem StK.next {fr : List (Nat × List Wd)} {k : Nat} {b : List UInt8} {l : List Int} {f : Int} {L : List StepS} {no : Nat} {ws : List Wd} (h : StK fr k b l f L) (hk : 0 < k) (hx : fr[k]? = some (no, ws)) :
    (∀ er, stepA l ws L = .error er → parseRows fr = .error (er, no)) ∧ ∀ L', stepA l ws L = .ok L' → StK fr (k + 1) b l f L' := by
  obtain ⟨n0, w0, r, rfl, hh, hs⟩ := h
  obtain ⟨j, rfl⟩ : ∃ j, k = j + 1 := ⟨k - 1, by omega⟩
  simp only [List.getElem?_cons_succ] at hx
  simp only [Nat.add_sub_cancel] at hs
  have hdrop := drop_cons hx
  have hr : r = r.take j ++ (no, ws) :: r.drop (j + 1) := by rw [← hdrop, List.take_append_drop]
  constructor
  · intro er he
    have e : stepsF l r [] = .error (er, no) := by
      rw [hr, stepsF_append l _ _ [] L hs, stepsF_A, he]
    simp only [parseRows, hh, e]
  · intro L' he
    refine ⟨n0, w0, r, rfl, hh, ?_⟩
    rw [Nat.add_sub_cancel, List.take_add_one, hx, stepsF_append l _ _ [] L hs]
    simp only [Option.toList_some, stepsF_A, he]
    rfl
theorem StK.end {fr : List (Nat × List Wd)} {b : List UInt8} {l : List Int} {f : Int} {L : List StepS} (h : StK fr fr.length b l f L) : parseRows fr = .ok (b, f, L) := by
  obtain ⟨n0, w0, r, rfl, hh, hs⟩ := h
  rw [List.length_cons, Nat.add_sub_cancel, List.take_length] at hs
  simp only [parseRows, hh, hs]
end Go.Ear
namespace Go.Proofs.YtkamjhhaghkdmaaDoor
open Go.RowKit Go.Ear Go.Shelf
set_option maxHeartbeats 4000000
set_option maxRecDepth 100000
set_option linter.unusedSimpArgs false
set_option linter.unusedVariables false
theorem head_v (p base no n : Nat) (ws : List Wd) (A : Option Addr) (c : Nat) (x0 x1 x2 x3 x4 : Value) (w : World) (hn : n = ws.length) (hw : SL w (.slice A n c) n 4 (flT (ws.map fun y => (no, y))))
    (hb : w.heap[p]? = some (.cells #[x0, x1, x2, x3, x4, .slice none 0 0] 46)) (hs : ∀ y ∈ ws, y.text.length ≤ 100000) (hne : ∀ k, (Value.slice A n c).ownBlock = some k → k ≠ p) :
    Calls Tryd.prog 19 #[.pointer (some ⟨p, 0, none⟩), .slice A n c] w (HeadPost w p base (headS ws)) := by
  by_cases h4 : ws.length = 4
  · obtain ⟨w0, w1, w2, w3, rfl⟩ : ∃ w0 w1 w2 w3, ws = [w0, w1, w2, w3] := by
      rcases ws with _ | ⟨w0, _ | ⟨w1, _ | ⟨w2, _ | ⟨w3, _ | ⟨w4, r⟩⟩⟩⟩⟩
      all_goals first | exact ⟨_, _, _, _, rfl⟩ | (exfalso; simp at h4; done) | (exfalso; simp at h4; omega)
    obtain rfl : n = 4 := hn
    by_cases h : headOk w0 w1 w2 w3
    · exact head_good p base no w0 w1 w2 w3 A c x0 x1 x2 x3 x4 w hw h hb hs hne
    · exact head_bad p base no w0 w1 w2 w3 A c w hw h
  · exact head_len p base ws A n c w hn h4
theorem kpL_of {n0 : Nat} {F : Nat → Prop} {A B : World} (h : Chg F A B) (hF : ∀ k, F k → k < A.heap.size → ∃ cs t z, A.heap[k]? = some (.cells cs t z) ∧ t ≠ 33 ∧ t ≠ 29) : KpL n0 A B :=
  ⟨h.size, fun k cs z _ hc => by
    have hk : k < A.heap.size := by rcases hc with hc | hc <;> exact (Array.getElem?_eq_some_iff.1 hc).1
    refine h.block k hk fun hf => ?_
    obtain ⟨cs', t, z', hb, h1, h2⟩ := hF k hf hk
    rcases hc with hc | hc <;> (rw [hb] at hc; simp only [Option.some.injEq, Obj.cells.injEq] at hc)
    · exact h1 hc.2.1
    · exact h2 hc.2.1⟩
/-- A change of cells that are no roster's, no step's bytes. -/
theorem RdIs.far {F : Nat → Prop} {w w' : World} {p base : Nat} {b : List UInt8} {f : Int} {l : List Int} {L : List StepS} {gs : Value} {vs : List Value} (h : RdIs w p base b f l L gs vs) (hc : Chg F w w')
    (hF : ∀ k, F k → (∃ cs t z, w.heap[k]? = some (.cells cs t z) ∧ t ≠ 21 ∧ t ≠ 46 ∧ t ≠ 50 ∧ t ≠ 5) ∨ ∃ o, w.heap[k]? = some o ∧ (∀ cs t z, o ≠ .cells cs t z) ∧ (∀ es c, o ≠ .map es c)) : RdIs w' p base b f l L gs vs := by
  obtain ⟨t, A, c, m, h1, h2⟩ := h.blk
  have hno : ∀ k cs t z, F k → w.heap[k]? = some (.cells cs t z) → t ≠ 21 ∧ t ≠ 46 ∧ t ≠ 50 ∧ t ≠ 5 := fun k cs t z hf hb => by
    rcases hF k hf with ⟨cs', t', z', hb', h3⟩ | ⟨o, hb', h4, _⟩
    · rw [hb] at hb'
      simp only [Option.some.injEq, Obj.cells.injEq] at hb'
      rw [hb'.2.1]
      exact h3
    · rw [hb] at hb'
      exact absurd (Option.some.inj hb').symm (h4 _ _ _)
  refine ⟨⟨t, A, c, m, (hc.block p (Array.getElem?_eq_some_iff.1 h1).1 fun hf => ((hno _ _ _ _ hf h1).2.1 rfl)).trans h1, ?_⟩, h.ss.chg hc fun k _ hk hf => ?_, h.few⟩
  · obtain ⟨t', A', c', m', e, ho, hl, hm⟩ := h2
    refine ⟨t', A', c', m', e, own_chg ho hc fun k hk hf => ?_, hl, ?_⟩
    · obtain ⟨cs, hb⟩ := own_blk ho k hk
      exact (hno _ _ _ _ hf hb).1 rfl
    · rcases hm with hm | ⟨b', hm, hM⟩
      · exact .inl hm
      · refine .inr ⟨b', hm, hM.grow hc fun hf => ?_⟩
        obtain ⟨es, clock, hb, _⟩ := hM
        rcases hF b' hf with ⟨cs', t', z', hb', _⟩ | ⟨o, hb', _, h5⟩
        · rw [hb] at hb'
          cases hb'
        · rw [hb] at hb'
          exact absurd (Option.some.inj hb').symm (h5 _ _)
  · rcases hk with hk | ⟨v, hv, hk⟩
    · obtain ⟨cs, hb⟩ := own_blk h.ss.own k hk
      exact (hno _ _ _ _ hf hb).2.2.1 rfl
    · obtain ⟨i, hi, rfl⟩ := List.mem_iff_getElem.1 hv
      obtain ⟨s, hs, hd⟩ := h.ss.at (List.getElem?_eq_getElem hi)
      obtain ⟨_, _, cur, z', hb⟩ := hd.lt k hk
      exact (hno _ _ _ _ hf hb).2.2.2 rfl
/-- The reader's zero value. -/
def rdZero : Obj := .cells #[.string ⟨#[]⟩, .int .i64 0, .string ⟨#[]⟩, .slice none 0 0, .map none, .slice none 0 0] 46
/-- What holds behind each line. -/
def SI (w0 : World) (p q : Nat) (fr : List (Nat × List Wd)) (pre : List Ln) (W : World) : Prop :=
  Chg (fun k => k = p) w0 W ∧ W.heap[q]? = some (.cells #[.pointer (some ⟨p, 0, none⟩)] 40) ∧
  ((pre = [] ∧ W.heap[q + 1]? = some (.cells #[.bool false] 4) ∧ W.heap[p]? = some rdZero) ∨
   (pre ≠ [] ∧ W.heap[q + 1]? = some (.cells #[.bool true] 4) ∧ ∃ b l f L gs vs, StK fr pre.length b l f L ∧ RdIs W p w0.heap.size b f l L gs vs))
/-- What a line that is refused leaves. -/
def SPan (w0 : World) (p : Nat) (fr : List (Nat × List Wd)) (ch : List PanicEntry) (W : World) : Prop :=
  ∃ er no, parseRows fr = .error (er, no) ∧ ch = [{ v := .iface 38 (.agg #[.int .i64 er, .int .i64 (no : Int)]), recovered := false }] ∧ Chg (fun k => k = p) w0 W
theorem blk_not {F : Nat → Prop} {w w' : World} (hc : Chg F w w') {k : Nat} {o : Obj} (h : w.heap[k]? = some o) (hF : ¬ F k) : w'.heap[k]? = some o := (hc.block k (Array.getElem?_eq_some_iff.1 h).1 hF).trans h
theorem si_ownL (w0 : World) (p q : Nat) (fr : List (Nat × List Wd)) (B : Nat) (hB : w0.heap.size ≤ B) : OwnL B (SI w0 p q fr) := by
  constructor
  · rintro pre W W' ⟨h1, h2, h3⟩ hg
    have hc : Chg Noth W W' := (Chg.of_grown hg).mono fun _ _ e => nomatch e
    refine ⟨h1.trans hc (fun _ _ e => e.elim), blk_grow hc h2, ?_⟩
    rcases h3 with ⟨h3, h4, h5⟩ | ⟨h3, h4, b, l, f, L, gs, vs, h5, h6⟩
    · exact .inl ⟨h3, blk_grow hc h4, blk_grow hc h5⟩
    · exact .inr ⟨h3, blk_grow hc h4, b, l, f, L, gs, vs, h5, h6.grow hc⟩
  · rintro pre W k r o' ⟨h1, h2, h3⟩ hk hl
    have hg := grownBy_putObj' W k o'
    have hc : Chg (fun j => j = k) W (W.putObj k o') := (Chg.of_grown hg).mono fun j _ e => by cases e; rfl
    have hn : ∀ j o, W.heap[j]? = some o → (∀ r, o ≠ .loop r) → ¬ j = k := fun j o hj ho e => by
      subst e
      rw [hl] at hj
      exact ho r (Option.some.inj hj).symm
    refine ⟨h1.trans hc (fun i hi e => by omega), blk_not hc h2 (hn _ _ h2 (fun _ e => by cases e)), ?_⟩
    rcases h3 with ⟨h3, h4, h5⟩ | ⟨h3, h4, b, l, f, L, gs, vs, h5, h6⟩
    · exact .inl ⟨h3, blk_not hc h4 (hn _ _ h4 (fun _ e => by cases e)), blk_not hc h5 (hn _ _ h5 (fun _ e => by cases e))⟩
    · refine .inr ⟨h3, blk_not hc h4 (hn _ _ h4 (fun _ e => by cases e)), b, l, f, L, gs, vs, h5, h6.far hc fun j e => ?_⟩
      subst e
      exact .inr ⟨_, hl, fun _ _ _ e => (by cases e), fun _ _ e => (by cases e)⟩
theorem lnGave_ownL (n0 : Nat) (fr : List (Nat × List Wd)) (b : Nat) (pre : List Ln) (x : Ln) : OwnL b (fun (_ : Unit) W => LnGave n0 fr pre x W) :=
  ⟨fun _ W W' hs hg => lnGave_own n0 fr b pre x () W W' none hs hg (fun r e => nomatch e), fun _ W l r o' hs hb hl => lnGave_own n0 fr b pre x () W _ (some l) hs (grownBy_putObj' W l o') (fun r' e => by cases e; exact ⟨hb, _, hl, rfl⟩)⟩
/-- The words of a line as a slice. -/
theorem LnGave.sl {n0 : Nat} {fr : List (Nat × List Wd)} {pre : List Ln} {x : Ln} {W : World} (h : LnGave n0 fr pre x W) : x.i = pre.length ∧ ∃ no ws g s cs z, fr[pre.length]? = some (no, ws) ∧ x.v = .slice (some ⟨g, s, none⟩) ws.length ws.length ∧ n0 ≤ g ∧ W.heap[g]? = some (.cells cs 33 z) ∧
    SL W (.slice (some ⟨g, s, none⟩) ws.length ws.length) ws.length 4 (flT (ws.map fun y => (no, y))) := by
  obtain ⟨h1, no, ws, h2, g, s, cs, z, h3, h4, h5, h6⟩ := h
  refine ⟨h1, no, ws, g, s * 4, cs, z, by rw [← h1]; exact h2, h3, h4, h5, by rw [flT_len, List.length_map], _, _, rfl, fun e => (nomatch e), Nat.le_refl _, fun _ => ⟨g, s * 4, rfl, (Array.getElem?_eq_some_iff.1 h5).1, h6⟩⟩
end Go.Proofs.YtkamjhhaghkdmaaDoor
