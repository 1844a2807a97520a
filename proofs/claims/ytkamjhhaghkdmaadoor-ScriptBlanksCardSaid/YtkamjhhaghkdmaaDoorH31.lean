/- The words of a text, plain. A region that draws its order and only reads and calls quiet functions, within a round of a range over a function. A region that draws its order, whatever its operations, within a round of a range over a function: out of the plain walk over its orders. -/
import Derived.Test.YtkamjhhaghkdmaaDoorH28
import Derived.Test.YtkamjhhaghkdmaaDoorH15
import Derived.OrdersIn
import Derived.OwnWalkIn
import Derived.RangeFuncCalls
namespace Go.Ear
set_option linter.unusedSimpArgs false
set_option linter.unusedVariables false
theorem ws_len (s : ByteArray) : ∀ (m p col : Nat) (out ws : List Wd), s.size - p = m → p ≤ s.size → wsF s p col out = .ok ws → ws.length ≤ out.length + (s.size - p) := by
  intro m
  induction m using Nat.strongRecOn with
  | ind m ih =>
    intro p col out ws hm hp h
    by_cases hlt : p < s.size
    · have hw := wd_pos s p
      have hwl := wd_le s p hlt
      rw [ws_step col out hlt] at h
      by_cases h1 : cls (rn s p) = 1
      · rw [if_pos h1] at h
        have := ih _ (by omega) (p + wd s p) (col + 1) out ws rfl hwl h
        omega
      rw [if_neg h1] at h
      by_cases h2 : rn s p = 35
      · rw [if_pos h2] at h
        injection h with h
        subst h
        omega
      rw [if_neg h2] at h
      by_cases h3 : rn s p = 34
      · rw [if_pos h3] at h
        have hq := (quo_le s _ (p + 1) (col + 1) rfl (by omega)).1
        cases he : quo s (p + 1) (col + 1) with
        | error e => rw [he] at h; cases h
        | ok x =>
          obtain ⟨q, c⟩ := x
          rw [he] at h
          have hqq := hq q c he
          have := ih _ (by omega) q c _ ws rfl (by omega) h
          simp at this
          omega
      rw [if_neg h3] at h
      by_cases h4 : cls (rn s p) = 5
      · rw [if_pos h4] at h
        have := ih _ (by omega) (p + 1) (col + 1) _ ws rfl (by omega) h
        simp at this
        omega
      rw [if_neg h4] at h
      by_cases h5 : cls (rn s p) = 4
      · rw [if_pos h5] at h
        have hr := run_first hlt (.inr h5)
        split at h
        · cases h
        · have := ih _ (by omega) (run s p).1 _ _ ws rfl (by omega) h
          simp at this
          omega
      rw [if_neg h5] at h
      by_cases h6 : cls (rn s p) = 3
      · rw [if_pos h6] at h
        have hr := run_first hlt (.inl h6)
        split at h
        · cases h
        · have := ih _ (by omega) (run s p).1 _ _ ws rfl (by omega) h
          simp at this
          omega
      rw [if_neg h6] at h
      cases h
    · rw [ws_end col out hlt] at h
      injection h with h
      subst h
      omega
theorem words_len {s : ByteArray} {ws : List Wd} (h : words s = .ok ws) : ws.length ≤ s.size := by
  rw [words_ws] at h
  have := ws_len s _ 0 1 [] ws rfl (by omega) h
  simpa using this
theorem ws_sub (s : ByteArray) : ∀ (m p col : Nat) (out ws : List Wd), s.size - p = m → p ≤ s.size → wsF s p col out = .ok ws → ∀ w ∈ ws, w ∈ out ∨ ∃ i n, w.text = sub s i n := by
  intro m
  induction m using Nat.strongRecOn with
  | ind m ih =>
    intro p col out ws hm hp h
    have push : ∀ (q c : Nat) (y : Wd), p < q → q ≤ s.size → (∃ i n, y.text = sub s i n) → wsF s q c (out ++ [y]) = .ok ws → ∀ w ∈ ws, w ∈ out ∨ ∃ i n, w.text = sub s i n := fun q c y h1 h2 h3 h4 w hw => by
      rcases ih _ (by omega) q c _ ws rfl h2 h4 w hw with h5 | h5
      · rcases List.mem_append.1 h5 with h5 | h5
        · exact .inl h5
        · rw [List.mem_singleton.1 h5]
          exact .inr h3
      · exact .inr h5
    by_cases hlt : p < s.size
    · have hw := wd_pos s p
      have hwl := wd_le s p hlt
      rw [ws_step col out hlt] at h
      by_cases h1 : cls (rn s p) = 1
      · rw [if_pos h1] at h
        exact ih _ (by omega) (p + wd s p) (col + 1) out ws rfl hwl h
      rw [if_neg h1] at h
      by_cases h2 : rn s p = 35
      · rw [if_pos h2] at h
        injection h with h
        subst h
        exact fun w hw => .inl hw
      rw [if_neg h2] at h
      by_cases h3 : rn s p = 34
      · rw [if_pos h3] at h
        have hq := (quo_le s _ (p + 1) (col + 1) rfl (by omega)).1
        cases he : quo s (p + 1) (col + 1) with
        | error e => rw [he] at h; cases h
        | ok x =>
          obtain ⟨q, c⟩ := x
          rw [he] at h
          have hqq := hq q c he
          exact push q c _ (by omega) (by omega) ⟨_, _, rfl⟩ h
      rw [if_neg h3] at h
      by_cases h4 : cls (rn s p) = 5
      · rw [if_pos h4] at h
        exact push (p + 1) (col + 1) _ (by omega) (by omega) ⟨_, _, rfl⟩ h
      rw [if_neg h4] at h
      by_cases h5 : cls (rn s p) = 4
      · rw [if_pos h5] at h
        have hr := run_first hlt (.inr h5)
        split at h
        · cases h
        · exact push (run s p).1 _ _ (by omega) (by omega) ⟨_, _, rfl⟩ h
      rw [if_neg h5] at h
      by_cases h6 : cls (rn s p) = 3
      · rw [if_pos h6] at h
        have hr := run_first hlt (.inl h6)
        split at h
        · cases h
        · exact push (run s p).1 _ _ (by omega) (by omega) ⟨_, _, rfl⟩ h
      rw [if_neg h6] at h
      cases h
    · rw [ws_end col out hlt] at h
      injection h with h
      subst h
      exact fun w hw => .inl hw
theorem words_text {s : ByteArray} {ws : List Wd} (h : words s = .ok ws) {w : Wd} (hw : w ∈ ws) : w.text.length ≤ s.size := by
  rw [words_ws] at h
  rcases ws_sub s _ 0 1 [] ws rfl (by omega) h w hw with h1 | ⟨i, n, h1⟩
  · simp at h1
  · rw [h1]
    unfold sub
    have : s.data.toList.length = s.size := by simp
    simp
    omega
/-- An error of a line's words is no OK. -/
theorem ws_err (s : ByteArray) : ∀ (m p col : Nat) (out : List Wd) (e : Int) (c : Nat), s.size - p = m → p ≤ s.size → wsF s p col out = .error (e, c) → 10 ≤ e ∧ e ≤ 22 ∧ c ≤ col + (s.size - p) := by
  intro m
  induction m using Nat.strongRecOn with
  | ind m ih =>
    intro p col out e c hm hp h
    by_cases hlt : p < s.size
    · have hw := wd_pos s p
      have hwl := wd_le s p hlt
      rw [ws_step col out hlt] at h
      by_cases h1 : cls (rn s p) = 1
      · rw [if_pos h1] at h
        have := ih _ (by omega) (p + wd s p) (col + 1) out e c rfl hwl h
        omega
      rw [if_neg h1] at h
      by_cases h2 : rn s p = 35
      · rw [if_pos h2] at h
        cases h
      rw [if_neg h2] at h
      by_cases h3 : rn s p = 34
      · rw [if_pos h3] at h
        have hq := (quo_le s _ (p + 1) (col + 1) rfl (by omega))
        cases he : quo s (p + 1) (col + 1) with
        | error e' =>
          obtain ⟨e1, c1⟩ := e'
          rw [he] at h
          simp only [Except.error.injEq, Prod.mk.injEq] at h
          have := hq.2 e1 c1 he
          omega
        | ok x =>
          obtain ⟨q, c'⟩ := x
          rw [he] at h
          have hqq := hq.1 q c' he
          have := ih _ (by omega) q c' _ e c rfl (by omega) h
          omega
      rw [if_neg h3] at h
      by_cases h4 : cls (rn s p) = 5
      · rw [if_pos h4] at h
        have := ih _ (by omega) (p + 1) (col + 1) _ e c rfl (by omega) h
        omega
      rw [if_neg h4] at h
      by_cases h5 : cls (rn s p) = 4
      · rw [if_pos h5] at h
        have hr := run_first hlt (.inr h5)
        split at h
        · simp only [Except.error.injEq, Prod.mk.injEq] at h; omega
        · have := ih _ (by omega) (run s p).1 _ _ e c rfl (by omega) h
          omega
      rw [if_neg h5] at h
      by_cases h6 : cls (rn s p) = 3
      · rw [if_pos h6] at h
        have hr := run_first hlt (.inl h6)
        split at h
        · simp only [Except.error.injEq, Prod.mk.injEq] at h; omega
        · have := ih _ (by omega) (run s p).1 _ _ e c rfl (by omega) h
          omega
      rw [if_neg h6] at h
      simp only [Except.error.injEq, Prod.mk.injEq] at h
      omega
    · rw [ws_end col out hlt] at h
      cases h
theorem linesF_each : ∀ (l acc : List UInt8), ∀ x ∈ linesF l acc, x.length ≤ acc.length + l.length
  | [], acc, x, h => by simp [linesF] at h; subst h; simp
  | c :: l, acc, x, h => by
    simp only [linesF] at h
    split at h
    · rcases List.mem_cons.1 h with rfl | h
      · simp
      · have := linesF_each l [] x h
        simp at this ⊢
        omega
    · have := linesF_each l _ x h
      simp at this ⊢
      omega
/-- A text's words, with their lines; behind each line that has words its end. -/
def toks (rows : List (Nat × List Wd × Nat)) : List (Nat × Wd) := rows.flatMap fun r => if r.2.1.isEmpty then [] else r.2.1.map (fun x => (r.1, x)) ++ [(r.1, ⟨1, [10], r.2.2 + 1⟩)]
theorem toks_append (a b : List (Nat × List Wd × Nat)) : toks (a ++ b) = toks a ++ toks b := by simp [toks]
/-- The lines as they are handed over. -/
def scanB (pre : List ByteArray) : Except (Int × Nat × Nat) (List (Nat × List Wd × Nat)) := scanF 0 (pre.map fun x => x.data.toList)
theorem eta (x : ByteArray) : (⟨x.data.toList.toArray⟩ : ByteArray) = x := by simp
theorem scanB_ok {pre : List ByteArray} {x : ByteArray} {rows : List (Nat × List Wd × Nat)} {ws : List Wd} (h : scanB pre = .ok rows) (hw : words x = .ok ws) : scanB (pre ++ [x]) = .ok (rows ++ [(pre.length + 1, ws, cnt x)]) := by
  unfold scanB at h ⊢
  rw [List.map_append, scanF_append _ _ 0 rows h]
  simp only [List.map_cons, List.map_nil, scanF, eta, hw, List.length_map, Nat.zero_add]
theorem scanB_err {pre : List ByteArray} {x : ByteArray} {rows : List (Nat × List Wd × Nat)} {e : Int} {c : Nat} (rest : List ByteArray) (h : scanB pre = .ok rows) (hw : words x = .error (e, c)) : scanB (pre ++ x :: rest) = .error (e, pre.length + 1, c) := by
  unfold scanB at h ⊢
  rw [List.map_append, scanF_append _ _ 0 rows h]
  simp only [List.map_cons, scanF, eta, hw, List.length_map, Nat.zero_add]
end Go.Ear
namespace Go.Ear
open Go.RowKit

section
variable {P : Program} {ops : Array Oper} {md : Region.Mode} {C : World → Prop} {l n : Nat}

def plainOp (o : Oper) : Bool := match o.op with
  | .defer _ => false
  | _ => true
theorem plainOp_ne {o : Oper} (h : plainOp o = true) : ∀ c, o.op ≠ .defer c := fun c e => by
  unfold plainOp at h
  rw [e] at h
  cases h

theorem wpIn_of_quiet_round {o : Oper} {a : Act} {K : Act → Prop} {K' : Act → World → Prop} {Q' : Exit → Act → World → Prop} {w : World} (hp : plainOp o = true) (hw : C w) (h : ∀ a w', C w' → K a → K' a w') (hh : o.quiet P a C K) :
    o.wpIn (Fence.wide.inRound l) n P a w K' Q' := by
  obtain ⟨v, h1, h2⟩ := hh
  have h3 := h1 w hw
  refine ⟨fun _ _ => trivial, ?_⟩
  rw [Oper.semAt_plain _ _ _ (plainOp_ne hp)]
  unfold Oper.quietAt at h3
  generalize (execOp a.eval o).run P w = r at *
  cases r with
  | ok n' w' =>
    cases n' <;> simp only [Oper.quietUpon] at h3 <;> simp only [Oper.uponIn]
    case value u =>
      obtain ⟨e1, e2⟩ := h3
      rw [e1, e2]
      exact h _ _ hw h2
    case skip =>
      obtain ⟨e1, e2⟩ := h3
      rw [e1, ← e2]
      exact h _ _ hw h2
    case enter f args =>
      obtain ⟨e1, hc⟩ := h3
      rw [e1]
      refine ⟨fun hd => by simp [Fence.wide] at hd, (CallsIn.inRound l (callsIn_wide.2 hc)).mono fun e w'' ⟨he, hw''⟩ => ?_⟩
      subst he
      exact h _ _ hw'' h2
  | halt x w' => simp only [Oper.quietUpon] at h3

theorem wpOpIn_of_qOp_round {i : Nat} {a : Act} {K : Act → Prop} {K' : Act → World → Prop} {Q' : Exit → Act → World → Prop} {w : World} (hp : ∀ (j : Nat) (o : Oper), ops[j]? = some o → plainOp o = true) (hC : C w) (h : ∀ a w', C w' → K a → K' a w') (hh : qOp P ops C i K a) :
    wpOpIn (Fence.wide.inRound l) n P ops Q' i K' a w := by
  unfold qOp at hh
  unfold wpOpIn
  split
  · rename_i ho; simp only [ho] at hh; exact h _ _ hC hh
  · rename_i o ho
    simp only [ho] at hh
    split
    · rename_i hw; simp only [hw, if_true] at hh; exact wpIn_of_quiet_round (hp _ _ ho) hC h hh
    · rename_i hw; simp only [hw] at hh; exact ⟨fun _ _ => trivial, h _ _ hC hh⟩

theorem wpAnyIn_of_quiet_round {Q : Act → Prop} {Q' : Exit → Act → World → Prop} (hp : ∀ (j : Nat) (o : Oper), ops[j]? = some o → plainOp o = true) (hQ : ∀ a w, C w → Q a → Q' .normal a w) : ∀ (fuel : Nat) (listed : Array Bool) (a : Act) (w : World), C w →
    wpAnyQ P md ops C Q fuel listed a → wpAnyIn (Fence.wide.inRound l) n P md ops Q' fuel listed a w
  | 0, _, _, _, hw, h => ⟨h.1, hQ _ _ hw h.2⟩
  | fuel + 1, _, _, _, hw, h => ⟨fun h0 => hQ _ _ hw (h.1 h0), fun i hi => wpOpIn_of_qOp_round hp hw (fun a' w' hw' => wpAnyIn_of_quiet_round hp hQ fuel _ a' w' hw') (h.2 i hi)⟩

theorem wpIn_region_quiet_round {id : Nat} {Q : Exit → Act → World → Prop} {a : Act} {w : World} (hm : P.follows .mixedOrders = true) (hB : Region.lexB .any ops = true) (hp : ops.all plainOp = true) (hC : C { w with drawn := w.drawn + 1 })
    (h : wpQuiet P ops C (fun a' => ∀ w', C w' → Q .normal a' w') ops.toList a) : (Code.region id ops true).wpIn (Fence.wide.inRound l) n P Q a w := by
  have hp' : ∀ (j : Nat) (o : Oper), ops[j]? = some o → plainOp o = true := fun j o ho => by
    obtain ⟨hj, rfl⟩ := Array.getElem?_eq_some_iff.1 ho
    exact Array.all_eq_true.1 hp j hj
  simp only [Region.lexB, Bool.and_eq_true] at hB
  refine wpIn_region_any hm (wpAnyIn_of_quiet_round (Q := fun a' => ∀ w', C w' → Q .normal a' w') hp' (fun _ w' hw' h => h w' hw') _ _ _ _ hC ?_)
  have := wpAnyQ_lex (C := C) (md := .any) hB.1 ops.toList 0 (Array.replicate ops.size false) a (by simp) (by simpa using hB.2) h
  simpa using this
end
theorem wpIn_region_grows_round {P : Program} {id l n : Nat} {Q : Exit → Act → World → Prop} {a : Act} {W : World} {ops : List Oper} (hm : P.follows .mixedOrders = true) (hB : Region.lexB .any ops.toArray = true) (hp : ops.toArray.all plainOp = true)
    (h : wpQuiet P ops.toArray (fun w' => ∃ g : Grows W, w' = g.w) (fun a' => ∀ w', (∃ g : Grows W, w' = g.w) → Q .normal a' w') ops a) : (Code.region id ops.toArray true).wpIn (Fence.wide.inRound l) n P Q a W :=
  wpIn_region_quiet_round (C := fun w' => ∃ g : Grows W, w' = g.w) hm hB hp ⟨⟨W.drew, chg_drew (Chg.refl _ _)⟩, rfl⟩ (by simpa using h)
end Go.Ear
namespace Go.Ear
open Go.RowKit
section
variable {P : Program} {ops : Array Oper} {md : Region.Mode} {l n : Nat}
theorem rowsIn_round {row : String} {args : Array Value} {w : World} {R : Value → World → Prop} (h : Rows P row args w R) : RowsIn (Fence.wide.inRound l) n P row args w R :=
  fun c cs _ => let ⟨v, w', r, s⟩ := h c cs; ⟨v, w', r, stepsIn_wide.2 s⟩
theorem wpIn_of_wp_round {o : Oper} {a : Act} {K : Act → World → Prop} {Q : Exit → Act → World → Prop} {w : World} (hp : plainOp o = true) (hh : o.wp P a w K Q) : o.wpIn (Fence.wide.inRound l) n P a w K Q := by
  refine ⟨fun _ _ => trivial, ?_⟩
  rw [Oper.semAt_plain _ _ _ (plainOp_ne hp)]
  unfold Oper.wp at hh
  generalize hx : (execOp a.eval o).run P w = r at *
  cases r with
  | ok x w' =>
    cases x <;> simp only [Oper.upon] at hh <;> simp only [Oper.uponIn]
    case value => exact hh
    case skip => exact hh
    case defer => exact hh
    case enter => exact ⟨fun hd => by simp [Fence.wide] at hd, CallsIn.inRound l (callsIn_wide.2 hh)⟩
    case row => exact ⟨fun hd => by simp [Fence.wide] at hd, rowsIn_round hh⟩
  | halt x w' => cases x <;> simp only [Oper.upon] at hh <;> simp only [Oper.uponIn] <;> exact hh
theorem wpOpIn_of_wpOp_round {i : Nat} {a : Act} {K K' : Act → World → Prop} {Q : Exit → Act → World → Prop} {w : World} (hL : ¬ LetsOut Q) (hp : ∀ (j : Nat) (o : Oper), ops[j]? = some o → plainOp o = true) (h : ∀ a w, K a w → K' a w) (hh : wpOp P ops Q i K a w) :
    wpOpIn (Fence.wide.inRound l) n P ops Q i K' a w := by
  unfold wpOp at hh
  unfold wpOpIn
  split
  · rename_i ho; simp only [ho] at hh; exact h _ _ hh
  · rename_i o ho
    simp only [ho] at hh
    split
    · rename_i hw
      simp only [hw, if_true] at hh
      rcases hh with hh | ⟨_, hh⟩
      · exact Oper.wpIn_mono h (wpIn_of_wp_round (hp _ _ ho) hh)
      · exact absurd hh hL
    · rename_i hw; simp only [hw] at hh; exact ⟨fun _ _ => trivial, h _ _ hh⟩
theorem wpAnyIn_of_wpAny_round {Q : Exit → Act → World → Prop} (hL : ¬ LetsOut Q) (hp : ∀ (j : Nat) (o : Oper), ops[j]? = some o → plainOp o = true) : ∀ (fuel : Nat) (listed : Array Bool) (a : Act) (w : World),
    wpAny P md ops Q fuel listed a w → wpAnyIn (Fence.wide.inRound l) n P md ops Q fuel listed a w
  | 0, _, _, _, h => h
  | fuel + 1, _, _, _, h => ⟨h.1, fun i hi => wpOpIn_of_wpOp_round hL hp (fun a' w' => wpAnyIn_of_wpAny_round hL hp fuel _ a' w') (h.2 i hi)⟩
theorem wpIn_region_round {id : Nat} {Q : Exit → Act → World → Prop} {a : Act} {w : World} (hm : P.follows .mixedOrders = true) (hp : ops.all plainOp = true) (hL : ¬ LetsOut Q)
    (h : wpAny P .any ops Q ops.size (Array.replicate ops.size false) a w.drew) : (Code.region id ops true).wpIn (Fence.wide.inRound l) n P Q a w := by
  have hp' : ∀ (j : Nat) (o : Oper), ops[j]? = some o → plainOp o = true := fun j o ho => by
    obtain ⟨hj, rfl⟩ := Array.getElem?_eq_some_iff.1 ho
    exact Array.all_eq_true.1 hp j hj
  exact wpIn_region_any hm (wpAnyIn_of_wpAny_round hL hp' _ _ _ _ h)
/-- A region's walk ends in one frame, its world told by R. -/
def Cut (A : Act) (R : World → Prop) : Exit → Act → World → Prop := fun e a w => e = .normal ∧ a = A ∧ R w
theorem cut_pan {A : Act} {R : World → Prop} {f g : Act → Act} : ∀ c a w, Cut A R (.panic c) (f a) w → Cut A R (.panic c) (g a) w := fun c a w h => by cases h.1
theorem cut_out {A : Act} {R : World → Prop} : ¬ LetsOut (Cut A R) := fun ⟨_, _, h⟩ => by cases h.1
theorem wpIn_region_round_cut {id : Nat} {Q : Exit → Act → World → Prop} {a : Act} {w : World} {R : World → Prop} (hm : P.follows .mixedOrders = true) (hp : ops.all plainOp = true)
    (h : ∃ A, wpAny P .any ops (Cut A R) ops.size (Array.replicate ops.size false) a w.drew ∧ ∀ w', R w' → Q .normal A w') : (Code.region id ops true).wpIn (Fence.wide.inRound l) n P Q a w := by
  obtain ⟨A, h, hk⟩ := h
  refine wpIn_mono (wpIn_region_round hm hp cut_out h) ?_
  rintro e a' w' ⟨rfl, rfl, hR⟩
  exact hk w' hR
theorem wp_region_cut {id : Nat} {Q : Exit → Act → World → Prop} {a : Act} {w : World} {R : World → Prop} (hm : P.follows .mixedOrders = true)
    (h : ∃ A, wpAny P .any ops (Cut A R) ops.size (Array.replicate ops.size false) a w.drew ∧ ∀ w', R w' → Q .normal A w') : (Code.region id ops true).wp P Q a w := by
  obtain ⟨A, h, hk⟩ := h
  refine wp_mono (wp_region_any hm h) ?_
  rintro e a' w' ⟨rfl, rfl, hR⟩
  exact hk w' hR
end
end Go.Ear
