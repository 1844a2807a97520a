/- word.Number. script: what a place's word says. -/
import Derived.Test.YtkamjhhaghkdmaaDoorH22
import Derived.Test.YtkamjhhaghkdmaaDoorH23
import Derived.Test.YtkamjhhaghkdmaaDoorH39
import Derived.Test.YtkamjhhaghkdmaaDoorH41
import Derived.Test.YtkamjhhaghkdmaaDoorH18
namespace Go.Proofs.YtkamjhhaghkdmaaDoor
open Go.RowKit Go.Ear Go.Proofs.YtkamjhhaghkdmaaDoorW.PrintWords Go.Proofs.YtkamjhhaghkdmaaDoor.PScriptLines
set_option maxHeartbeats 4000000
set_option maxRecDepth 100000
set_option linter.unusedSimpArgs false
set_option linter.unusedVariables false
/-- What Number answers. -/
def numVal (s : ByteArray) : Value := if numW s.data.toList < 0 then .tuple #[.int .i64 0, .int .i64 21] else .tuple #[.int .i64 (numW s.data.toList), .int .i64 0]
theorem Number_any (s : ByteArray) (w : World) (hs : s.size ≤ 100000000000) : Calls Tryd.prog 35 #[.string s] w (Gc (numVal s) w) := by
  have hn := gr_gc (number_any s w hs)
  unfold numRes at hn
  unfold numVal
  by_cases h : numW s.data.toList < 0
  · rw [if_pos h] at hn ⊢
    clear h
    go_enter Tryd.func35, Tryd.ntmps35
    go_wp2_with (go_at_call 25; refine hn.mono ?_; rintro e w' ⟨rfl, hc⟩)
    go_ret2
    exact ⟨rfl, hc⟩
  · rw [if_neg h] at hn ⊢
    obtain ⟨v, hv⟩ : ∃ v, numW s.data.toList = v := ⟨_, rfl⟩
    rw [hv] at hn ⊢
    clear h hv
    go_enter Tryd.func35, Tryd.ntmps35
    go_wp2_with (go_at_call 25; refine hn.mono ?_; rintro e w' ⟨rfl, hc⟩)
    go_ret2
    exact ⟨rfl, hc⟩
end Go.Proofs.YtkamjhhaghkdmaaDoor
namespace Go.Ear
set_option linter.unusedSimpArgs false
set_option linter.unusedVariables false
/-- What one word says. -/
def sayS (l : List Int) (p : Pl) (y : Wd) (s : StepS) : Except Int StepS := readP l [p] [y] s
theorem readP_cons (l : List Int) (p : Pl) (y : Wd) (ps : List Pl) (ws : List Wd) (s : StepS) : readP l (p :: ps) (y :: ws) s = match sayS l p y s with
    | .error e => .error e
    | .ok s' => readP l ps ws s' := by
  cases p with
  | sign =>
    simp only [readP, sayS]
    by_cases h : rn ⟨y.text.toArray⟩ 0 ∈ l
    · rw [if_pos h, if_pos h]
    · rw [if_neg h, if_neg h]
  | num i =>
    simp only [readP, sayS]
    by_cases h : numW y.text < 0
    · rw [if_pos h, if_pos h]
    · rw [if_neg h, if_neg h]
  | text =>
    simp only [readP, sayS]
    cases unq ⟨y.text.toArray⟩ with
    | error e => rfl
    | ok b => rfl
theorem uq_err (s : ByteArray) : ∀ (m p : Nat) (out : List UInt8), s.size - p = m → p ≤ s.size → (∀ e c, uq s p out = .error (e, c) → 10 ≤ e ∧ e ≤ 12) ∧ ∀ d, uq s p out = .ok d → d.length ≤ out.length + 4 * (s.size - p) := by
  intro m
  induction m using Nat.strongRecOn with
  | ind m ih =>
    intro p out hm hp
    by_cases h : p < s.size
    · have hw := wd_pos s p
      have hwl := wd_le s p h
      rw [uq_step out h]
      by_cases h1 : rn s p = 34
      · rw [if_pos h1]
        by_cases h2 : p + 1 < s.size
        · rw [if_pos h2]
          refine ⟨fun e c h => ?_, fun d h => by cases h⟩
          simp only [Except.error.injEq, Prod.mk.injEq] at h
          omega
        · rw [if_neg h2]
          refine ⟨fun e c h => (by cases h), fun d h => ?_⟩
          injection h with h
          subst h
          omega
      rw [if_neg h1]
      by_cases h2 : rn s p = 92
      · rw [if_pos h2]
        have hat := (at_rn h (c := 92) (by omega) h2).1
        cases he : esc s p with
        | none =>
          refine ⟨fun e c h => ?_, fun d h => by cases h⟩
          simp only [Except.error.injEq, Prod.mk.injEq] at h
          omega
        | some x =>
          obtain ⟨b, n⟩ := x
          have hc := cnt_esc s p hat he
          have hb : b.length ≤ 4 := esc_len s p he
          have i1 := ih (s.size - (p + n)) (by omega) (p + n) (out ++ b) rfl hc.1
          simp only
          refine ⟨i1.1, fun d h => ?_⟩
          have := i1.2 d h
          rw [List.length_append] at this
          omega
      rw [if_neg h2]
      by_cases h3 : stands s p = true
      · rw [if_pos h3]
        have i1 := ih (s.size - (p + wd s p)) (by omega) (p + wd s p) (out ++ sub s p (wd s p)) rfl hwl
        refine ⟨i1.1, fun d h => ?_⟩
        have := i1.2 d h
        have hsl : (sub s p (wd s p)).length ≤ wd s p := by unfold sub; simp; omega
        rw [List.length_append] at this
        omega
      · rw [if_neg h3]
        refine ⟨fun e c h => ?_, fun d h => by cases h⟩
        simp only [Except.error.injEq, Prod.mk.injEq] at h
        omega
    · rw [uq_end out h]
      refine ⟨fun e c h => ?_, fun d h => by cases h⟩
      simp only [Except.error.injEq, Prod.mk.injEq] at h
      omega
theorem unq_err {s : ByteArray} : (∀ e c, unq s = .error (e, c) → e ≠ 0) ∧ ∀ d, unq s = .ok d → d.length ≤ 300000 := by
  rw [unq_uq]
  by_cases h : 65536 < s.size
  · rw [if_pos h]
    refine ⟨fun e c h => ?_, fun d h => by cases h⟩
    simp only [Except.error.injEq, Prod.mk.injEq] at h
    omega
  rw [if_neg h]
  by_cases h2 : atB s 0 = 34
  · rw [if_pos h2]
    have hs : 0 < s.size := (atB_in (i := 0) (by omega)).1
    have := uq_err s _ 1 [] rfl (by omega)
    refine ⟨fun e c h => by have := this.1 e c h; omega, fun d h => ?_⟩
    have := this.2 d h
    simp at this
    omega
  · rw [if_neg h2]
    refine ⟨fun e c h => ?_, fun d h => by cases h⟩
    simp only [Except.error.injEq, Prod.mk.injEq] at h
    omega
end Go.Ear
namespace Go.Proofs.YtkamjhhaghkdmaaDoor
open Go.RowKit Go.Ear Go.Shelf
set_option maxHeartbeats 4000000
set_option maxRecDepth 100000
set_option linter.unusedSimpArgs false
set_option linter.unusedVariables false
/-- A step's bytes in memory. -/
def DAt (w : World) (nb : Nat) (v : Value) (d : List UInt8) : Prop := (v = .slice none 0 0 ∧ d = []) ∨ ∃ g cap cur, v = .slice (some ⟨g, 0, none⟩) d.length cap ∧ nb ≤ g ∧ w.heap[g]? = some (.cells cur 5 (cap, cap + 1)) ∧ d.length ≤ cap ∧ cap ≤ maxLen ∧ cur.size = cap ∧ cur.toList.take d.length = bv d
theorem DAt.keep {w w' : World} {nb : Nat} {v : Value} {d : List UInt8} (h : DAt w nb v d) (hk : ∀ k, v.ownBlock = some k → w'.heap[k]? = w.heap[k]?) : DAt w' nb v d := by
  rcases h with h | ⟨g, cap, cur, h1, h2, h3, h4⟩
  · exact .inl h
  · exact .inr ⟨g, cap, cur, h1, h2, (hk g (by rw [h1]; rfl)).trans h3, h4⟩
theorem DAt.lt {w : World} {nb : Nat} {v : Value} {d : List UInt8} (h : DAt w nb v d) : ∀ k, v.ownBlock = some k → nb ≤ k ∧ k < w.heap.size ∧ ∃ cur z, w.heap[k]? = some (.cells cur 5 z) := by
  intro k hk
  rcases h with ⟨rfl, _⟩ | ⟨g, cap, cur, rfl, h2, h3, _⟩
  · cases hk
  · cases hk
    exact ⟨h2, (Array.getElem?_eq_some_iff.1 h3).1, _, _, h3⟩
/-- A step under way. -/
def StepAt (w : World) (nb b : Nat) (s : StepS) (v : Value) : Prop := w.heap[b]? = some (.cells #[.int .i64 s.kind, .int .i64 s.a, .int .i64 s.b, .int .i64 s.c, v] 50) ∧ DAt w nb v s.data
theorem StepAt.keep {w w' : World} {nb b : Nat} {s : StepS} {v : Value} (h : StepAt w nb b s v) (hc : Chg Noth w w') : StepAt w' nb b s v :=
  ⟨blk_grow hc h.1, h.2.keep fun k hk => hc.block k (h.2.lt k hk).2.1 (fun e => e)⟩
/-- What comes of a word. -/
def SayPost (W : World) (nb b : Nat) (R : Except Int StepS) : Ending → World → Prop := fun e X => match R with
  | .error er => er ≠ 0 ∧ e = .returned (.int .i64 er) ∧ Chg (fun k => k = b) W X
  | .ok s' => e = .returned (.int .i64 0) ∧ Chg (fun k => k = b) W X ∧ ∃ v', StepAt X nb b s' v'
theorem step_set {W X : World} {nb b : Nat} {k a b' c : Int} {v : Value} (j : Nat) (n : Int) (hc : Chg Noth W X) (h : W.heap[b]? = some (.cells #[.int .i64 k, .int .i64 a, .int .i64 b', .int .i64 c, v] 50)) :
    (X.setCell ⟨b, j, none⟩ (.int .i64 n)).heap[b]? = some (.cells (#[.int .i64 k, .int .i64 a, .int .i64 b', .int .i64 c, v].setIfInBounds j (.int .i64 n)) 50) :=
  heap_setCell_same _ _ _ _ _ _ (blk_grow hc h)
theorem chg_set_b {W X : World} {b j : Nat} {v : Value} (hc : Chg Noth W X) : Chg (fun k => k = b) W (X.setCell ⟨b, j, none⟩ v) :=
  (hc.mono (fun _ _ h => h.elim)).trans (G := fun k => k = b) ⟨by simp [World.setCell], by simp [World.setCell], by simp [World.setCell], by simp, fun k _ hk => heap_setCell_other _ _ _ _ hk⟩ (fun _ _ h => h)
theorem number1_v (i : Nat) (l : List Int) (pv : Value) (b b2 nb : Nat) (z2 : Nat × Nat) (y : Wd) (s : StepS) (v : Value) (w : World) (hS : StepAt w nb b s v) (hb2 : w.heap[b2]? = some (.cells #[ofF i] 111 z2)) (hs : y.text.length ≤ 100000000000) :
    Calls Tryd.prog 59 #[pv, .pointer (some ⟨b, 0, none⟩), .string ⟨y.text.toArray⟩, .pointer (some ⟨b2, 0, none⟩)] w (SayPost w nb b (sayS l (.num i) y s)) := by
  have hnu := fun W => Number_any ⟨y.text.toArray⟩ W (by show y.text.toArray.size ≤ _; simpa using hs)
  unfold numVal at hnu
  simp only [List.toList_toArray] at hnu
  have hR : sayS l (.num i) y s = if numW y.text < 0 then .error 21 else .ok (if i = 0 then { s with a := numW y.text } else if i = 1 then { s with b := numW y.text } else { s with c := numW y.text }) := by
    simp only [sayS, readP]
  rw [hR]
  clear hR
  have jb : Old b w := ⟨(Array.getElem?_eq_some_iff.1 hS.1).1⟩
  have j2 : Old b2 w := ⟨(Array.getElem?_eq_some_iff.1 hb2).1⟩
  have c2 : w.cell? ⟨b2, 0, none⟩ = some (ofF i) := (cell_of_row _ _ _ _ _ _ hb2).trans rfl
  obtain ⟨t, ht⟩ : ∃ t, (⟨y.text.toArray⟩ : ByteArray) = t := ⟨_, rfl⟩
  obtain ⟨n, hn⟩ : ∃ n, numW y.text = n := ⟨_, rfl⟩
  have k1 : w.cell? ⟨b, 1, none⟩ = some (.int .i64 s.a) := (cell_of_row w b 1 _ _ _ hS.1).trans rfl
  have k2 : w.cell? ⟨b, 2, none⟩ = some (.int .i64 s.b) := (cell_of_row w b 2 _ _ _ hS.1).trans rfl
  have k3 : w.cell? ⟨b, 3, none⟩ = some (.int .i64 s.c) := (cell_of_row w b 3 _ _ _ hS.1).trans rfl
  have h1 : HasCell w b 1 := ⟨by rw [k1]; rfl⟩
  have h2 : HasCell w b 2 := ⟨by rw [k2]; rfl⟩
  have h3 : HasCell w b 3 := ⟨by rw [k3]; rfl⟩
  have hz : ∀ i, w.frozen? ⟨b, i, none⟩ = false := fun i => frozen_of_row _ _ _ _ _ hS.1
  rw [hn, ht] at hnu
  rw [hn, ht]
  have HSt := Lib.hid hS
  clear hS hb2 hn ht hs
  obtain ⟨n', e', hnu', hne⟩ : ∃ n' e' : Int, (∀ W, Calls Tryd.prog 35 #[.string t] W (Gc (.tuple #[.int .i64 n', .int .i64 e']) W)) ∧ ((n < 0 ∧ e' = 21) ∨ (¬ n < 0 ∧ n' = n ∧ e' = 0)) := by
    by_cases h : n < 0
    · exact ⟨0, 21, fun W => by have := hnu W; rwa [if_pos h] at this, .inl ⟨h, rfl⟩⟩
    · exact ⟨n, 0, fun W => by have := hnu W; rwa [if_neg h] at this, .inr ⟨h, rfl, rfl⟩⟩
  have HN := Lib.hid hne
  clear hne hnu
  have key : Calls Tryd.prog 59 #[pv, .pointer (some ⟨b, 0, none⟩), .string t, .pointer (some ⟨b2, 0, none⟩)] w (fun e X => e = .returned (.int .i64 e') ∧ ∃ X1, Chg Noth w X1 ∧ X = X1.setCell ⟨b, (if i = 0 then 1 else if i = 1 then 2 else 3), none⟩ (.int .i64 n')) := by
    rcases i with _ | _ | i
    · have hf := fun W (hb : b < W.heap.size) => first_v b 0 W hb
      simp only [Nat.zero_add] at hf
      replace c2 : w.cell? ⟨b2, 0, none⟩ = some (.func (.func 45) #[] #[]) := c2
      go_enter Tryd.func59, Tryd.ntmps59
      go_wp2_with fail
      go_at_call 35
      refine (hnu' _).mono ?_
      rintro e X1 ⟨rfl, hc⟩
      obtain ⟨m, rfl⟩ := muts_ex hc
      have hbm : b < m.w.heap.size := (inferInstance : Old b m.w).lt
      clear hnu'
      go_wp2_with (go_at_call 45; refine (hf _ hbm).mono ?_; rintro e w' ⟨rfl, rfl⟩)
      go_ret
      exact ⟨rfl, _, hc, rfl⟩
    · have hf := fun W (hb : b < W.heap.size) => second_v b 0 W hb
      simp only [Nat.zero_add] at hf
      replace c2 : w.cell? ⟨b2, 0, none⟩ = some (.func (.func 46) #[] #[]) := c2
      go_enter Tryd.func59, Tryd.ntmps59
      go_wp2_with fail
      go_at_call 35
      refine (hnu' _).mono ?_
      rintro e X1 ⟨rfl, hc⟩
      obtain ⟨m, rfl⟩ := muts_ex hc
      have hbm : b < m.w.heap.size := (inferInstance : Old b m.w).lt
      clear hnu'
      go_wp2_with (go_at_call 46; refine (hf _ hbm).mono ?_; rintro e w' ⟨rfl, rfl⟩)
      go_ret
      exact ⟨rfl, _, hc, rfl⟩
    · have hf := fun W (hb : b < W.heap.size) => third_v b 0 W hb
      simp only [Nat.zero_add] at hf
      replace c2 : w.cell? ⟨b2, 0, none⟩ = some (.func (.func 47) #[] #[]) := c2
      go_enter Tryd.func59, Tryd.ntmps59
      go_wp2_with fail
      go_at_call 35
      refine (hnu' _).mono ?_
      rintro e X1 ⟨rfl, hc⟩
      obtain ⟨m, rfl⟩ := muts_ex hc
      have hbm : b < m.w.heap.size := (inferInstance : Old b m.w).lt
      clear hnu'
      go_wp2_with (go_at_call 47; refine (hf _ hbm).mono ?_; rintro e w' ⟨rfl, rfl⟩)
      go_ret
      exact ⟨rfl, _, hc, rfl⟩
  refine key.mono ?_
  rintro e X ⟨rfl, X1, hc, rfl⟩
  obtain ⟨hb, hd⟩ := HSt.out
  have hdk : ∀ s' : StepS, s'.data = s.data → ∀ W', Chg (fun k => k = b) w W' → DAt W' nb v s'.data := fun s' e W' hc' => by
    rw [e]
    refine hd.keep fun k hk => hc'.block k (hd.lt k hk).2.1 fun e => ?_
    subst e
    obtain ⟨_, _, cur, z, h⟩ := hd.lt k hk
    rw [hb] at h
    cases h
  rcases HN.out with ⟨h, rfl⟩ | ⟨h, rfl, rfl⟩
  · rw [if_pos h]
    exact ⟨by decide, rfl, chg_set_b hc⟩
  · rw [if_neg h]
    refine ⟨rfl, chg_set_b hc, v, ?_, ?_⟩
    · have := step_set (nb := nb) (if i = 0 then 1 else if i = 1 then 2 else 3) n' hc hb
      rw [this]
      by_cases h0 : i = 0
      · simp only [h0, if_true]; rfl
      · by_cases h1 : i = 1
        · simp only [h0, h1, if_true, if_false]; rfl
        · simp only [h0, h1, if_false]; rfl
    · exact hdk _ (by split; rfl; split <;> rfl) _ (chg_set_b hc)
end Go.Proofs.YtkamjhhaghkdmaaDoor
