/- The lines of a text's words, plain. Walks of frames of functions that are there: a round that a panic may leave. -/
import Derived.Test.YtkamjhhaghkdmaaDoorH33
import Derived.Test.YtkamjhhaghkdmaaDoorH15
import Derived.RangeFuncNested
import Derived.RangeFuncBound
import Derived.RangeFuncCalls
import Derived.RangeFuncLeaves
namespace Go.Ear
set_option linter.unusedSimpArgs false
set_option linter.unusedVariables false
theorem segs_run (R : List Int) : ∀ (ks : List Int) (i f : Nat) (acc : List (Nat × Nat)), (∀ k ∈ ks, k ≠ 1) → segs (ks ++ 1 :: R) i f acc = segs R (i + ks.length + 1) (i + ks.length + 1) (acc ++ [(f, i + ks.length - f)])
  | [], i, f, acc, _ => by simp [segs]
  | k :: ks, i, f, acc, h => by
    simp only [List.cons_append, segs]
    rw [if_neg (h k (by simp)), segs_run R ks (i + 1) f acc (fun k' hk => h k' (by simp [hk]))]
    simp only [List.length_cons]
    rw [show i + 1 + ks.length = i + (ks.length + 1) by omega]
theorem good_run (R : List Int) : ∀ (ks : List Int) (i f : Nat), (∀ k ∈ ks, k ≠ 1) → f < i + ks.length → good R (i + ks.length + 1) (i + ks.length + 1) → good (ks ++ 1 :: R) i f
  | [], i, f, _, hf, hg => by
    simp only [List.nil_append, good]
    exact ⟨fun _ => by simpa using hf, by simpa using hg⟩
  | k :: ks, i, f, h, hf, hg => by
    simp only [List.cons_append, good]
    have hk := h k (by simp)
    refine ⟨fun e => absurd e hk, ?_⟩
    rw [if_neg hk]
    refine good_run R ks (i + 1) f (fun k' hk => h k' (by simp [hk])) (by simp at hf; omega) ?_
    rw [show i + 1 + ks.length = i + (ks.length + 1) by omega]
    exact hg
/-- Where the lines of rows lie. -/
def pos : Nat → List (Nat × List Wd) → List (Nat × Nat)
  | _, [] => []
  | i, (_, ws) :: r => (i, ws.length) :: pos (i + ws.length + 1) r
theorem full_cons (r : Nat × List Wd × Nat) (rows : List (Nat × List Wd × Nat)) : full (r :: rows) = if r.2.1.isEmpty then full rows else (r.1, r.2.1) :: full rows := by
  unfold full
  simp only [List.filter_cons]
  cases h : r.2.1.isEmpty <;> simp
theorem toks_cons (r : Nat × List Wd × Nat) (rows : List (Nat × List Wd × Nat)) : toks (r :: rows) = (if r.2.1.isEmpty then [] else r.2.1.map (fun x => (r.1, x)) ++ [(r.1, ⟨1, [10], r.2.2 + 1⟩)]) ++ toks rows := by simp [toks]
theorem segs_toks : ∀ (rows : List (Nat × List Wd × Nat)) (i : Nat) (acc : List (Nat × Nat)), (∀ r ∈ rows, ∀ x ∈ r.2.1, x.kind ≠ 1) →
    segs ((toks rows).map fun x => x.2.kind) i i acc = acc ++ pos i (full rows) ∧ good ((toks rows).map fun x => x.2.kind) i i
  | [], i, acc, _ => by simp [toks, segs, full, pos, good]
  | r :: rows, i, acc, h => by
    rw [toks_cons, full_cons]
    by_cases he : r.2.1.isEmpty = true
    · rw [if_pos he, if_pos he, List.nil_append]
      exact segs_toks rows i acc (fun r' hr => h r' (by simp [hr]))
    · rw [if_neg he, if_neg he]
      have ih := fun j acc => segs_toks rows j acc (fun r' hr => h r' (by simp [hr]))
      have hl : 0 < r.2.1.length := by
        rcases Nat.eq_zero_or_pos r.2.1.length with e | e
        · rw [List.length_eq_zero_iff] at e
          simp [e] at he
        · exact e
      have e : (((r.2.1.map fun x => (r.1, x)) ++ [(r.1, (⟨1, [10], r.2.2 + 1⟩ : Wd))]) ++ toks rows).map (fun x => x.2.kind) = (r.2.1.map fun x => x.kind) ++ 1 :: (toks rows).map fun x => x.2.kind := by
        simp [Function.comp_def]
      rw [e]
      have hk : ∀ k ∈ r.2.1.map (fun x => x.kind), k ≠ 1 := by
        intro k hk
        obtain ⟨x, hx, rfl⟩ := List.mem_map.1 hk
        exact h r (by simp) x hx
      constructor
      · rw [segs_run _ _ i i acc hk, (ih _ _).1]
        simp only [List.length_map, pos]
        rw [show i + r.2.1.length - i = r.2.1.length by omega]
        simp
      · refine good_run _ _ i i hk (by simpa using hl) ?_
        simp only [List.length_map]
        exact (ih _ []).2
/-- What lies where a line begins. -/
theorem pos_at : ∀ (rows : List (Nat × List Wd × Nat)) (i j : Nat) (no : Nat) (ws : List Wd), (full rows)[j]? = some (no, ws) → ∃ s, (pos i (full rows))[j]? = some (s, ws.length) ∧ i ≤ s ∧ s - i + ws.length ≤ (toks rows).length ∧ ((toks rows).drop (s - i)).take ws.length = ws.map fun x => (no, x)
  | [], i, j, no, ws, h => by simp [full] at h
  | r :: rows, i, j, no, ws, h => by
    rw [full_cons] at h ⊢
    rw [toks_cons]
    by_cases he : r.2.1.isEmpty = true
    · rw [if_pos he] at h ⊢
      rw [if_pos he, List.nil_append]
      exact pos_at rows i j no ws h
    · rw [if_neg he] at h ⊢
      rw [if_neg he]
      cases j with
      | zero =>
        simp only [List.getElem?_cons_zero, Option.some.injEq, Prod.mk.injEq] at h
        obtain ⟨rfl, rfl⟩ := h
        refine ⟨i, by simp [pos], Nat.le_refl _, by simp, ?_⟩
        rw [Nat.sub_self, List.drop_zero, List.append_assoc, List.take_append_of_le_length (by simp), List.take_of_length_le (by simp)]
      | succ j =>
        simp only [List.getElem?_cons_succ] at h
        obtain ⟨s, h1, h2, h3, h4⟩ := pos_at rows (i + r.2.1.length + 1) j no ws h
        have hlen : ((r.2.1.map fun x => (r.1, x)) ++ [(r.1, (⟨1, [10], r.2.2 + 1⟩ : Wd))]).length = r.2.1.length + 1 := by simp
        refine ⟨s, by simp only [pos, List.getElem?_cons_succ]; exact h1, by omega, by rw [List.length_append, hlen]; omega, ?_⟩
        rw [List.drop_append, hlen, List.drop_of_length_le (by rw [hlen]; omega), List.nil_append]
        rw [show s - i - (r.2.1.length + 1) = s - (i + r.2.1.length + 1) by omega]
        exact h4
theorem ws_kind (s : ByteArray) : ∀ (m p col : Nat) (out ws : List Wd), s.size - p = m → p ≤ s.size → wsF s p col out = .ok ws → ∀ w ∈ ws, w ∈ out ∨ (2 ≤ w.kind ∧ w.kind ≤ 5) := by
  intro m
  induction m using Nat.strongRecOn with
  | ind m ih =>
    intro p col out ws hm hp h
    have push : ∀ (q c : Nat) (y : Wd), p < q → q ≤ s.size → (2 ≤ y.kind ∧ y.kind ≤ 5) → wsF s q c (out ++ [y]) = .ok ws → ∀ w ∈ ws, w ∈ out ∨ (2 ≤ w.kind ∧ w.kind ≤ 5) := fun q c y h1 h2 h3 h4 w hw => by
      rcases ih _ (by omega) q c _ ws rfl h2 h4 w hw with h5 | h5
      · rcases List.mem_append.1 h5 with h5 | h5
        · exact .inl h5
        · rw [List.mem_singleton.1 h5]
          exact .inr h3
      · exact .inr h5
    by_cases hlt : p < s.size
    · have hw := wd_pos s p
      have hwl := wd_le s p hlt
      rw [ws_step col out hlt] at h
      by_cases h1 : cls (rn s p) = 1
      · rw [if_pos h1] at h
        exact ih _ (by omega) (p + wd s p) (col + 1) out ws rfl hwl h
      rw [if_neg h1] at h
      by_cases h2 : rn s p = 35
      · rw [if_pos h2] at h
        injection h with h
        subst h
        exact fun w hw => .inl hw
      rw [if_neg h2] at h
      by_cases h3 : rn s p = 34
      · rw [if_pos h3] at h
        have hq := (quo_le s _ (p + 1) (col + 1) rfl (by omega)).1
        cases he : quo s (p + 1) (col + 1) with
        | error e => rw [he] at h; cases h
        | ok x =>
          obtain ⟨q, c⟩ := x
          rw [he] at h
          have hqq := hq q c he
          exact push q c _ (by omega) (by omega) (by simp) h
      rw [if_neg h3] at h
      by_cases h4 : cls (rn s p) = 5
      · rw [if_pos h4] at h
        exact push (p + 1) (col + 1) _ (by omega) (by omega) (by simp) h
      rw [if_neg h4] at h
      by_cases h5 : cls (rn s p) = 4
      · rw [if_pos h5] at h
        have hr := run_first hlt (.inr h5)
        split at h
        · cases h
        · exact push (run s p).1 _ _ (by omega) (by omega) (by simp) h
      rw [if_neg h5] at h
      by_cases h6 : cls (rn s p) = 3
      · rw [if_pos h6] at h
        have hr := run_first hlt (.inl h6)
        split at h
        · cases h
        · exact push (run s p).1 _ _ (by omega) (by omega) (by simp) h
      rw [if_neg h6] at h
      cases h
    · rw [ws_end col out hlt] at h
      injection h with h
      subst h
      exact fun w hw => .inl hw
theorem scan_kind : ∀ (ls : List (List UInt8)) (no : Nat) (rows : List (Nat × List Wd × Nat)), scanF no ls = .ok rows → ∀ r ∈ rows, ∀ x ∈ r.2.1, x.kind ≠ 1
  | [], no, rows, h => by
    simp only [scanF] at h
    injection h with h
    subst h
    intro r hr
    simp at hr
  | l :: ls, no, rows, h => by
    simp only [scanF] at h
    cases hw : words ⟨l.toArray⟩ with
    | error e => rw [hw] at h; cases h
    | ok ws =>
      rw [hw] at h
      simp only at h
      cases hr : scanF (no + 1) ls with
      | error e => rw [hr] at h; cases h
      | ok rs =>
        rw [hr] at h
        simp only at h
        injection h with h
        subst h
        intro r hr' x hx
        rcases List.mem_cons.1 hr' with rfl | hr'
        · rw [words_ws] at hw
          rcases ws_kind _ _ 0 1 [] ws rfl (Nat.zero_le _) hw x hx with h1 | h1
          · simp at h1
          · omega
        · exact scan_kind ls (no + 1) rs hr r hr' x hx
end Go.Ear
namespace Go
variable {F : Fence} {n : Nat} {P : Program} {Q : Exit → Act → World → Prop} {a : Act} {w : World}
/-- As wpIn, of frames of functions that are there. -/
def Code.wpE (F : Fence) (n : Nat) (P : Program) (c : Code) (Q : Exit → Act → World → Prop) (a : Act) (w : World) : Prop :=
  ∀ (b : Frame) (k : List Item) (cs : List Frame), (∃ fn, P.funcs[b.fn]? = some fn) → b.roundOf = F.round → F.fn b.fn → F.room (cs.length + 1 + n) →
    ∃ e a' w', Q e a' w' ∧ ArrivesIn (Machine.fenced P F) P (lone (b.atR a (.code c :: k)) cs w) b k cs e a' w'
theorem wpE_of_wpIn {c : Code} (h : c.wpIn F n P Q a w) : c.wpE F n P Q a w := fun b k cs _ hro hb hr => h b k cs hro hb hr
theorem wpE_mono {c : Code} {Q' : Exit → Act → World → Prop} (h : c.wpE F n P Q a w) (hq : ∀ e a w, Q e a w → Q' e a w) : c.wpE F n P Q' a w :=
  fun b k cs hx hro hb hr => let ⟨e, a', w', q, r⟩ := h b k cs hx hro hb hr; ⟨e, a', w', hq _ _ _ q, r⟩
theorem wpE_seq {x y : Code} (h : x.wpE F n P (Exit.then (y.wpE F n P Q) Q) a w) : (Code.seq x y).wpE F n P Q a w := by
  intro b k cs hx hro hb hr
  have h0 : (lone (b.atR a (.code (.seq x y) :: k)) cs w).fenced P F := fenced_calm hb hr rfl
  obtain ⟨e, a₁, w₁, hq, harr⟩ := h b (.code y :: k) cs hx hro hb hr
  cases e with
  | normal =>
    obtain ⟨e₂, a₂, w₂, hq₂, harr₂⟩ := hq b k cs hx hro hb hr
    exact ⟨e₂, a₂, w₂, hq₂, .of_steps (.head h0 stepR_seq harr) harr₂⟩
  | exit id => exact ⟨_, a₁, w₁, hq, .of_steps (.one h0 stepR_seq) (.pass (x := .code y) rfl (fun _ _ => .inl (by simp)) harr)⟩
  | goto l => exact ⟨_, a₁, w₁, hq, .of_steps (.one h0 stepR_seq) (.pass (x := .code y) rfl (fun _ _ => .inl (by simp)) harr)⟩
  | ret => exact ⟨_, a₁, w₁, hq, .of_steps (.one h0 stepR_seq) (.pass (x := .code y) rfl (fun _ _ => .inl (by simp)) harr)⟩
  | panic ch => exact ⟨_, a₁, w₁, hq, .of_steps (.one h0 stepR_seq) (.pass (x := .code y) rfl (fun _ _ => .inl (by simp)) harr)⟩
  | outgrown => exact ⟨_, a₁, w₁, hq, .of_steps (.one h0 stepR_seq) (.pass (x := .code y) rfl (fun _ _ => .inl (by simp)) harr)⟩
theorem wpE_seq_k {x y : Code} (h : ∀ K : Act → World → Prop, (∀ a w, y.wpE F n P Q a w → K a w) → x.wpE F n P (Exit.then K Q) a w) :
    (Code.seq x y).wpE F n P Q a w := wpE_seq (h _ fun _ _ h => h)
theorem wpE_block {id : Nat} {c : Code} (h : c.wpE F n P (Exit.inBlock id Q) a w) : (Code.block id c).wpE F n P Q a w := by
  intro b k cs hx hro hb hr
  have h0 : (lone (b.atR a (.code (.block id c) :: k)) cs w).fenced P F := fenced_calm hb hr rfl
  obtain ⟨e, a₁, w₁, hq, harr⟩ := h b (.inBlock id :: k) cs hx hro hb hr
  cases e with
  | normal => exact ⟨.normal, a₁, w₁, hq, .head h0 stepR_block (StepsIn.trans harr (.one (fenced_calm hb hr rfl) stepR_inBlock))⟩
  | exit id' =>
    by_cases hid : id' = id
    · simp only [Exit.inBlock, hid, if_true] at hq
      exact ⟨.normal, a₁, w₁, hq, .head h0 stepR_block (harr.1 k (by simp [exitTo, hid]))⟩
    · simp only [Exit.inBlock, hid, if_false] at hq
      have this : (id == id') = false := by simp; exact fun h => hid h.symm
      have hx : exitTo id' (.inBlock id :: k) = exitTo id' k := by simp [exitTo, this]
      exact ⟨.exit id', a₁, w₁, hq, fun k' hk => .head h0 stepR_block (harr.1 k' (by rw [hx]; exact hk)),
        fun hr' hk => let ⟨k₁, h1, h2⟩ := harr.2 hr' (by rw [hx]; exact hk); ⟨k₁, h1, .head h0 stepR_block h2⟩⟩
  | goto l =>
    have hx : gotoIn l (.inBlock id :: k) = gotoIn l k := by simp [gotoIn]
    exact ⟨.goto l, a₁, w₁, hq, fun k' hk => .head h0 stepR_block (harr.1 k' (by rw [hx]; exact hk)),
        fun hr' hk => let ⟨k₁, h1, h2⟩ := harr.2 hr' (by rw [hx]; exact hk); ⟨k₁, h1, .head h0 stepR_block h2⟩⟩
  | ret => exact ⟨_, a₁, w₁, hq, .of_steps (.one h0 stepR_block) harr⟩
  | panic ch => exact ⟨_, a₁, w₁, hq, .of_steps (.one h0 stepR_block) harr⟩
  | outgrown => exact ⟨_, a₁, w₁, hq, .of_steps (.one h0 stepR_block) harr⟩
/-- How a round may be left: by a panic too, if it has deferred nothing. -/
def roundPostP (P : Program) (l : Nat) (R : Ending → World → Prop) : Exit → Act → World → Prop
  | .panic ch, a, w => a.defers = [] ∧ R (.panicked ch) w
  | e, a, w => roundPost P l R e a w
theorem roundIn_of_wpIn_pan {l : Nat} {f : FuncId} {tmps : Array Value} {assign body : Code} {w : World} {R : Ending → World → Prop} (hF : F.fn f) (hx : ∃ fn, P.funcs[f]? = some fn)
    (h : assign.wpIn (F.inRound l) n P (Exit.then (fun a₁ w₁ => ∃ w₂, (Instr.beginRound l).run P w₁ = .ok () w₂ ∧ body.wpIn (F.inRound l) n P (roundPostP P l R) a₁ w₂) (fun _ _ _ => False))
      { tmps := tmps, defers := [] } w) :
    RoundIn F n P l f tmps assign body w R := by
  refine ⟨hF, fun c cs hr => ?_⟩
  let b : Frame := { (default : Frame) with fn := f, kind := .normal, roundOf := some l }
  have hb0 : Frame.round l f tmps assign body .normal = b.atR { tmps := tmps, defers := [] } [.code assign, .beginRound, .code body] := by
    simp [Frame.round, Frame.atR, b]
  have hr' : (F.inRound l).room ((c :: cs).length + 1 + n) := hr
  have hF' : (F.inRound l).fn b.fn := hF
  obtain ⟨e, a₁, w₁, hq, harr⟩ := h b [.beginRound, .code body] (c :: cs) rfl hF' hr'
  rw [← hb0] at harr
  cases e with
  | normal =>
    obtain ⟨w₂, hbr, hbody⟩ := hq
    have s1 : StepsIn (Machine.fenced P (F.inRound l)) P (lone (b.atR a₁ [.beginRound, .code body]) (c :: cs) w₁) (lone (b.atR a₁ [.code body]) (c :: cs) w₂) :=
      .one (fenced_calm (fr := b.atR a₁ [.beginRound, .code body]) hF' hr' rfl) (stepR_beginRound rfl hbr)
    obtain ⟨e₂, a₂, w₃, hq₂, harr₂⟩ := hbody b [] (c :: cs) rfl hF' hr'
    cases e₂ with
    | normal =>
      obtain ⟨v, w₄, hend, hR⟩ := hq₂
      exact ⟨.returned v, w₄, hR, (StepsIn.trans harr s1).trans (StepsIn.trans harr₂ (.one (fenced_calm (fr := b.atR a₂ []) hF' hr' rfl) (stepR_round_end rfl rfl hend)))⟩
    | ret =>
      obtain ⟨v, w₄, hend, hR⟩ := hq₂
      obtain ⟨k₁, hs⟩ := harr₂.2 rfl
      exact ⟨.returned v, w₄, hR, (StepsIn.trans harr s1).trans (StepsIn.trans hs (.one (fenced_calm (fr := b.atR a₂ (.code .ret :: k₁)) hF' hr' rfl) (stepR_round_ret rfl rfl hend)))⟩
    | exit id =>
      obtain ⟨v, w₄, hend, hR⟩ := hq₂
      obtain ⟨k₁, hk, hs⟩ := harr₂.2 rfl rfl
      exact ⟨.returned v, w₄, hR, (StepsIn.trans harr s1).trans (StepsIn.trans hs (.one (fenced_calm (fr := b.atR a₂ (.code (.exit id) :: k₁)) hF' hr' rfl) (stepR_round_exit rfl rfl hk hend)))⟩
    | goto t =>
      obtain ⟨v, w₄, hend, hR⟩ := hq₂
      obtain ⟨k₁, hk, hs⟩ := harr₂.2 rfl rfl
      exact ⟨.returned v, w₄, hR, (StepsIn.trans harr s1).trans (StepsIn.trans hs (.one (fenced_calm (fr := b.atR a₂ (.code (.goto t) :: k₁)) hF' hr' rfl) (stepR_round_goto rfl rfl hk hend)))⟩
    | panic chain =>
      obtain ⟨hd, hR⟩ := hq₂
      obtain ⟨todo, hs⟩ := harr₂
      have hl : ({ b.atR a₂ todo with mode := .panicking chain } : Frame).leaving P w₃ (.panicked chain) := ⟨rfl, hd, hx⟩
      exact ⟨.panicked chain, w₃, hR, (StepsIn.trans harr s1).trans (StepsIn.trans hs (.one (fenced_leaving (F := F.inRound l) hF' hr' hl) (step_leave_panicked hl)))⟩
    | outgrown => exact hq₂.elim
  | exit id => exact hq.elim
  | goto t => exact hq.elim
  | ret => exact hq.elim
  | panic chain => exact hq.elim
  | outgrown => exact hq.elim
theorem wpE_rangeFunc {g : Operand} {ps : Array Tmp} {assign body : Code}
    (h : ∀ fn, (∃ x, P.funcs[fn]? = some x) → F.fn fn → ∃ (l : Nat) (mark : List Deferred) (w₁ : World) (d : Deferred) (w₁' : World) (f : FuncId) (args : Array Value) (w₂ : World),
      (Instr.enterLoop fn a.tmps ps assign body F.round).run P w = .ok (l, mark) w₁ ∧
      (resolve a.eval (rangeCall g l) 0).run P w₁ = .ok d w₁' ∧
      (∀ f', Target.leads P w₁' d.target d.args = some f' → F.fn f') ∧
      (invoke d.target d.args).run P w₁' = .ok (.enter f args) w₂ ∧
      (F.depth.isSome = true → 1 ≤ n) ∧
      CallsIn F (n - 1) P f args w₂ (rangePost F n P l Q { a with defers := mark ++ a.defers })) :
    (Code.rangeFunc g ps assign body).wpE F n P Q a w := by
  intro b k cs hx hro hb hr
  obtain ⟨l, mark, w₁, d, w₁', f, args, w₂, he, hres, hlead, hinv, hn, hF, hcall⟩ := h b.fn hx hb
  rw [← hro] at he
  have h0 : (lone (b.atR a (.code (.rangeFunc g ps assign body) :: k)) cs w).fenced P F := by
    refine fenced_lone (.inl hb) (fun f' hf' => hlead f' ?_) (Fence.room_le hr (by omega))
    have hev := Frame.eval_atR b a (.code (.rangeFunc g ps assign body) :: k)
    simp only [Frame.atR] at hev
    simp only [Frame.about, Frame.atR, he, hev, hres] at hf'
    exact hf'
  have henter := stepR_rangeFunc (P := P) (b := b) (a := a) (k := k) (cs := cs) (w := w) he hres hinv
  have hroom : F.room ((b.atR { a with defers := mark ++ a.defers } (.inRangeFunc l :: k) :: cs).length + 1 + (n - 1)) := Fence.room_enter hr hn
  obtain ⟨e, w₃, fr, hR, hsteps, hfn, hleave⟩ := hcall (b.atR { a with defers := mark ++ a.defers } (.inRangeFunc l :: k) :: cs) hroom
  cases e with
  | outgrown =>
    obtain ⟨a₀, w₀, hq⟩ := hR
    exact ⟨.outgrown, a₀, w₀, hq, .inr (Outgrown.of_steps (.one henter) hsteps)⟩
  | returned v =>
    have hl : (lone fr (b.atR { a with defers := mark ++ a.defers } (.inRangeFunc l :: k) :: cs) w₃).fenced P F := fenced_leaving (hfn ▸ hF) hroom hleave
    obtain ⟨jump, w₄, hend, hj⟩ := hR
    have sback : StepsIn (Machine.fenced P F) P (lone (b.atR a (.code (.rangeFunc g ps assign body) :: k)) cs w) (lone (b.atR { a with defers := mark ++ a.defers } ((jump.map Item.code).toList ++ k)) cs w₄) := by
      refine .head h0 henter (StepsIn.trans hsteps (.head hl ?_ (.one (fenced_calm (fr := b.atR { a with defers := mark ++ a.defers } (.endRangeFunc l :: k)) hb hr rfl) (stepR_endRangeFunc hend))))
      rw [← finish_atR_inRangeFunc l v]; exact step_leave_returned hleave
    cases jump with
    | none => exact ⟨.normal, _, w₄, hj, sback⟩
    | some c =>
      obtain ⟨e', a'', w₅, hq, harr⟩ := hj b k cs hro hb hr
      exact ⟨e', a'', w₅, hq, .of_steps sback harr⟩
  | panicked chain =>
    have hl : (lone fr (b.atR { a with defers := mark ++ a.defers } (.inRangeFunc l :: k) :: cs) w₃).fenced P F := fenced_leaving (hfn ▸ hF) hroom hleave
    refine ⟨.panic chain, _, w₃, hR, .inRangeFunc l :: k, .head h0 henter (StepsIn.trans hsteps (.one hl ?_))⟩
    rw [← Frame.raise_atR]; exact step_leave_panicked hleave
theorem callsIn_of_wpE_marks {f : FuncId} {fn : Func} {c : Code} {args : Array Value} {w : World} {R : Ending → World → Prop}
    (hf : P.funcs[f]? = some fn) (hb : fn.body = some c) (hF : F.fn f)
    (h : c.wpE F n P (bodyPostM F n P fn R) { tmps := args ++ Array.replicate (fn.ntmps - args.size) undef, defers := [] } w) (hro : F.round = none := by rfl) : CallsIn F n P f args w R := by
  refine ⟨hF, fun cs hr => ?_⟩
  let b : Frame := { (default : Frame) with fn := f, kind := .normal, roundOf := none }
  have henter : Frame.enter P f args .normal =
      b.atR { tmps := args ++ Array.replicate (fn.ntmps - args.size) undef, defers := [] } [.code c] := by
    simp [Frame.enter, Frame.atR, hf, hb, b]
  obtain ⟨e, a', w', hq, harr⟩ := h b [] cs ⟨fn, hf⟩ hro.symm hF hr
  rw [← henter] at harr
  cases e with
  | normal =>
    obtain ⟨e', w'', fr', hR, hs, hfn, hl⟩ := leaves_stepsInM a'.defers .returning w' { b.atR a' [] with mode := .returning } cs rfl rfl rfl hf rfl hF hr hq
    exact ⟨e', w'', fr', hR, ComesIn.of_steps (StepsIn.trans harr (.one (fenced_calm (fr := b.atR a' []) hF hr rfl) (stepR_end rfl))) hs, hfn, hl⟩
  | ret =>
    obtain ⟨todo, hs₀⟩ := harr.1 rfl
    obtain ⟨e', w'', fr', hR, hs, hfn, hl⟩ := leaves_stepsInM a'.defers .returning w' { b.atR a' todo with mode := .returning } cs rfl rfl rfl hf rfl hF hr hq
    exact ⟨e', w'', fr', hR, ComesIn.of_steps hs₀ hs, hfn, hl⟩
  | panic chain =>
    obtain ⟨todo, hs₀⟩ := harr
    obtain ⟨e', w'', fr', hR, hs, hfn, hl⟩ := leaves_stepsInM a'.defers (.panicking chain) w' { b.atR a' todo with mode := .panicking chain } cs rfl rfl rfl hf rfl hF hr hq
    exact ⟨e', w'', fr', hR, ComesIn.of_steps hs₀ hs, hfn, hl⟩
  | exit id => exact hq.elim
  | goto l => exact hq.elim
  | outgrown => exact ⟨.outgrown, w', b, hq, harr.resolve_left (by simp [b]), rfl, trivial⟩
end Go
