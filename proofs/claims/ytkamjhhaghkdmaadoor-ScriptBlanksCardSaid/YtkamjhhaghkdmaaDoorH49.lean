/- The law of blanks, plain: a script's words laid anew with other blanks, remarks and empty lines are read as the same script. -/
import Derived.Test.YtkamjhhaghkdmaaDoorH34
namespace Go.Ear
set_option linter.unusedSimpArgs false
set_option linter.unusedVariables false
set_option maxRecDepth 100000
/-- So many bytes of two texts agree. -/
structure Ag (s t : ByteArray) (p q n : Nat) : Prop where
  l : p + n ≤ s.size
  r : q + n ≤ t.size
  eq : ∀ j, j < n → by' t (q + j) = by' s (p + j)
theorem Ag.part {s t : ByteArray} {p q n : Nat} (h : Ag s t p q n) (k m : Nat) (hk : k + m ≤ n) : Ag s t (p + k) (q + k) m :=
  ⟨by have := h.l; omega, by have := h.r; omega, fun j hj => by rw [Nat.add_assoc, Nat.add_assoc]; exact h.eq (k + j) (by omega)⟩
theorem Ag.go' {s t : ByteArray} {p q n : Nat} (h : Ag s t p q n) (j : Nat) (hj : j < n) (hg : go s (p + j)) : go t (q + j) := by
  have e := h.eq j hj
  exact ⟨by have := h.r; omega, by rw [e]; exact hg.2.1, by rw [e]; exact hg.2.2⟩
theorem Ag.rune {s t : ByteArray} {p q n : Nat} (h : Ag s t p q n) (hw : wd s p ≤ n) (hl : lo s p = false) : rn t q = rn s p ∧ wd t q = wd s p ∧ lo t q = false := by
  have e0 := h.eq 0
  have e1 := h.eq 1
  have e2 := h.eq 2
  have e3 := h.eq 3
  have g1 := h.go' 1
  have g2 := h.go' 2
  have g3 := h.go' 3
  rw [Nat.add_zero, Nat.add_zero] at e0
  rcases dec_full s p with ⟨a, hr, hb⟩ | ⟨a, h1, h2, k1, hr⟩ | ⟨a, h1, h2, k1, k2, hr, hv, hv'⟩ | ⟨a, h1, h2, k1, k2, k3, hr, hv, hv'⟩ | ⟨a, hr, h'⟩
  · have e0 := e0 (by omega)
    have := by_low t q (by omega)
    rw [a, hr, ← e0]
    exact ⟨this.2.1, this.1, this.2.2⟩
  · have e0 := e0 (by omega)
    have e1 := e1 (by omega)
    have g1 := g1 (by omega) k1
    have q1 := k1.2
    rw [hr, a]
    unfold rn wd lo
    rw [decode_eq]
    unfold decT decM
    rw [e0, e1, if_neg (by omega), if_pos ⟨h1, h2, decide_eq_true g1⟩]
    exact ⟨rfl, rfl, decide_eq_false (fun h => by have := h.2; simp at this)⟩
  · have e0 := e0 (by omega)
    have e1 := e1 (by omega)
    have e2 := e2 (by omega)
    have g1 := g1 (by omega) k1
    have g2 := g2 (by omega) k2
    rw [hr, a]
    unfold rn wd lo
    rw [decode_eq]
    unfold decT decM
    rw [e0, e1, e2, if_neg (by omega), if_neg (by omega), if_pos ⟨h1, h2, decide_eq_true g1, decide_eq_true g2, hv, hv'⟩]
    exact ⟨rfl, rfl, decide_eq_false (fun h => by have := h.2; simp at this)⟩
  · have e0 := e0 (by omega)
    have e1 := e1 (by omega)
    have e2 := e2 (by omega)
    have e3 := e3 (by omega)
    have g1 := g1 (by omega) k1
    have g2 := g2 (by omega) k2
    have g3 := g3 (by omega) k3
    rw [hr, a]
    unfold rn wd lo
    rw [decode_eq]
    unfold decT decM
    rw [e0, e1, e2, e3, if_neg (by omega), if_neg (by omega), if_neg (by omega), if_pos ⟨h1, h2, decide_eq_true g1, decide_eq_true g2, decide_eq_true g3, hv, hv'⟩]
    exact ⟨rfl, rfl, decide_eq_false (fun h => by have := h.2; simp at this)⟩
  · rw [h'] at hl
    cases hl
theorem Ag.atB {s t : ByteArray} {p q n : Nat} (h : Ag s t p q n) (j : Nat) (hj : j < n) : atB t (q + j) = atB s (p + j) := by
  have e := h.eq j hj
  have l := h.l
  have r := h.r
  unfold Go.Ear.atB
  rw [if_pos (by omega), if_pos (by omega), e]
theorem Ag.hex {s t : ByteArray} {p q n : Nat} (h : Ag s t p q n) : ∀ f i v, (hexF s f (p + i) v).2 < p + n → hexF t f (q + i) v = ((hexF s f (p + i) v).1, q + ((hexF s f (p + i) v).2 - p))
  | 0, i, v, _ => by simp only [hexF]; rw [Nat.add_sub_cancel_left]
  | f + 1, i, v, hn => by
    have hl := (hexF_le s (f + 1) (p + i) v).1
    have ha := h.atB i (by omega)
    simp only [hexF] at hn ⊢
    rw [ha]
    by_cases hx : 0 ≤ hexV (Go.Ear.atB s (p + i))
    · rw [if_pos hx] at hn ⊢
      rw [if_pos hx]
      exact h.hex f (i + 1) _ hn
    · rw [if_neg hx, if_neg hx, Nat.add_sub_cancel_left]
theorem Ag.esc {s t : ByteArray} {p q n : Nat} (h : Ag s t p q n) {b : List UInt8} {m : Nat} (h0 : Go.Ear.atB s p = 92) (he : esc s p = some (b, m)) (hm : m ≤ n) : esc t q = some (b, m) := by
  have hlo := (esc_low s p h0 he).1
  have a1 := h.atB 1 (by omega)
  unfold Go.Ear.esc at he ⊢
  simp only at he ⊢
  rw [a1]
  by_cases c1 : Go.Ear.atB s (p + 1) = 34 ∨ Go.Ear.atB s (p + 1) = 92
  · rw [if_pos c1] at he ⊢; exact he
  rw [if_neg c1] at he ⊢
  by_cases c2 : Go.Ear.atB s (p + 1) = 110
  · rw [if_pos c2] at he ⊢; exact he
  rw [if_neg c2] at he ⊢
  by_cases c3 : Go.Ear.atB s (p + 1) = 116
  · rw [if_pos c3] at he ⊢; exact he
  rw [if_neg c3] at he ⊢
  by_cases c4 : Go.Ear.atB s (p + 1) = 114
  · rw [if_pos c4] at he ⊢; exact he
  rw [if_neg c4] at he ⊢
  by_cases c5 : Go.Ear.atB s (p + 1) = 120
  · rw [if_pos c5] at he ⊢
    by_cases c6 : 0 ≤ hexV (Go.Ear.atB s (p + 2)) ∧ 0 ≤ hexV (Go.Ear.atB s (p + 3))
    · rw [if_pos c6] at he
      have hm4 : m = 4 := by
        simp only [Option.some.injEq, Prod.mk.injEq] at he
        omega
      rw [h.atB 2 (by omega), h.atB 3 (by omega), if_pos c6]
      exact he
    · rw [if_neg c6] at he; cases he
  rw [if_neg c5] at he ⊢
  by_cases c7 : Go.Ear.atB s (p + 1) = 117
  · rw [if_pos c7] at he ⊢
    by_cases c8 : Go.Ear.atB s (p + 2) = 123
    · rw [if_pos c8] at he
      have hl := (hexF_le s 6 (p + 3) 0).1
      by_cases c9 : p + 3 < (hexF s 6 (p + 3) 0).2 ∧ Go.Ear.atB s (hexF s 6 (p + 3) 0).2 = 125 ∧ (hexF s 6 (p + 3) 0).1 ≤ 1114111 ∧ ¬ (55296 ≤ (hexF s 6 (p + 3) 0).1 ∧ (hexF s 6 (p + 3) 0).1 ≤ 57343)
      · rw [if_pos c9] at he
        have hm' : m = (hexF s 6 (p + 3) 0).2 + 1 - p := by
          simp only [Option.some.injEq, Prod.mk.injEq] at he
          omega
        have hx := h.hex 6 3 0 (by omega)
        have a2 := h.atB ((hexF s 6 (p + 3) 0).2 - p) (by omega)
        rw [show p + ((hexF s 6 (p + 3) 0).2 - p) = (hexF s 6 (p + 3) 0).2 by omega] at a2
        rw [h.atB 2 (by omega), if_pos c8, hx]
        simp only
        rw [a2, if_pos ⟨by omega, c9.2⟩, ← he]
        congr 2
        omega
      · rw [if_neg c9] at he; cases he
    · rw [if_neg c8] at he; cases he
  · rw [if_neg c7] at he; cases he
theorem Ag.quo {s t : ByteArray} : ∀ (m p q col col' e c : Nat), s.size - p = m → p ≤ s.size → Go.Ear.quo s p col = .ok (e, c) → Ag s t p q (e - p) → Go.Ear.quo t q col' = .ok (q + (e - p), col' + (c - col)) := by
  intro m
  induction m using Nat.strongRecOn with
  | ind m ih =>
    intro p q col col' e c hm hp hq ha
    have hle := (quo_le s m p col hm hp).1 e c hq
    have hlt : p < s.size := by omega
    have hltq : q < t.size := by have := ha.r; omega
    have hw := wd_pos s p
    have hwl := wd_le s p hlt
    rw [quo_step hlt] at hq
    by_cases h1 : rn s p = 34
    · rw [if_pos h1] at hq
      simp only [Except.ok.injEq, Prod.mk.injEq] at hq
      obtain ⟨rfl, rfl⟩ := hq
      have hr := rn_low s p (by omega)
      have hlo : lo s p = false := (by_low s p hr.2.2).2.2
      have hx := ha.rune (by omega) hlo
      rw [quo_step hltq, hx.1, if_pos h1]
      simp
    rw [if_neg h1] at hq
    by_cases h2 : rn s p = 92
    · rw [if_pos h2] at hq
      have hr := rn_low s p (by omega)
      have hlo : lo s p = false := (by_low s p hr.2.2).2.2
      have hx := ha.rune (by omega) hlo
      have hat := (at_rn hlt (c := 92) (by omega) h2).1
      cases he : Go.Ear.esc s p with
      | none => rw [he] at hq; cases hq
      | some x =>
        obtain ⟨b, n⟩ := x
        rw [he] at hq
        simp only at hq
        have hce := cnt_esc s p hat he
        have hle2 := (quo_le s _ (p + n) (col + n) rfl hce.1).1 e c hq
        have i1 := ih (s.size - (p + n)) (by omega) (p + n) (q + n) (col + n) (col' + n) e c rfl hce.1 hq (by
          have := ha.part n (e - (p + n)) (by omega)
          exact this)
        rw [quo_step hltq, hx.1, if_neg h1, if_pos h2, ha.esc hat he (by omega)]
        simp only
        rw [i1]
        congr 2 <;> omega
    rw [if_neg h2] at hq
    by_cases h3 : stands s p = true
    · rw [if_pos h3] at hq
      have hst := h3
      unfold stands at h3
      simp only [Bool.and_eq_true, Bool.not_eq_true'] at h3
      have hle2 := (quo_le s _ (p + wd s p) (col + 1) rfl hwl).1 e c hq
      have hx := ha.rune (by omega) h3.1.1
      have i1 := ih (s.size - (p + wd s p)) (by omega) (p + wd s p) (q + wd s p) (col + 1) (col' + 1) e c rfl hwl hq (ha.part (wd s p) (e - (p + wd s p)) (by omega))
      have hst2 : stands t q = true := by
        unfold stands at hst ⊢
        rw [hx.1, hx.2.2]
        rw [h3.1.1] at hst
        exact hst
      rw [quo_step hltq, hx.1, if_neg h1, if_neg h2, if_pos hst2, hx.2.1, i1]
      congr 2 <;> omega
    · rw [if_neg h3] at hq
      cases hq
theorem Ag.runs {s t : ByteArray} : ∀ (m p q n n' e k : Nat), s.size - p = m → p ≤ s.size → Go.Ear.runs s p n = (e, k) → Ag s t p q (e - p) → (q + (e - p) < t.size → ¬ (cls (rn t (q + (e - p))) = 3 ∨ cls (rn t (q + (e - p))) = 4)) → p ≤ e ∧ n ≤ k ∧ Go.Ear.runs t q n' = (q + (e - p), n' + (k - n)) := by
  intro m
  induction m using Nat.strongRecOn with
  | ind m ih =>
    intro p q n n' e k hm hp hr ha hs
    by_cases hlt : p < s.size
    · have hw := wd_pos s p
      have hwl := wd_le s p hlt
      rw [runs_step n hlt] at hr
      by_cases hc : cls (rn s p) = 3 ∨ cls (rn s p) = 4
      · rw [if_pos hc] at hr
        have hpe : p + wd s p ≤ e := by
          have := runF_le s (s.size - (p + wd s p)) (p + wd s p) (n + 1) hwl
          rw [← show Go.Ear.runs s (p + wd s p) (n + 1) = runF s (s.size - (p + wd s p)) (p + wd s p) (n + 1) from rfl, hr] at this
          exact this.1
        have hlo : lo s p = false := by
          cases hl : lo s p with
          | false => rfl
          | true => have := lo_class s p hl; omega
        have hx := ha.rune (by omega) hlo
        have hqt : q < t.size := by have := ha.r; omega
        have i1 := ih (s.size - (p + wd s p)) (by omega) (p + wd s p) (q + wd s p) (n + 1) (n' + 1) e k rfl hwl hr (ha.part (wd s p) (e - (p + wd s p)) (by omega)) (by
          rw [show q + wd s p + (e - (p + wd s p)) = q + (e - p) by omega]; exact hs)
        refine ⟨by omega, by omega, ?_⟩
        rw [runs_step n' hqt, hx.1, if_pos hc, hx.2.1, i1.2.2]
        congr 1 <;> omega
      · rw [if_neg hc] at hr
        simp only [Prod.mk.injEq] at hr
        obtain ⟨rfl, rfl⟩ := hr
        rw [Nat.sub_self, Nat.add_zero] at hs ⊢
        refine ⟨Nat.le_refl _, Nat.le_refl _, ?_⟩
        by_cases hq : q < t.size
        · rw [runs_step n' hq, if_neg (hs hq)]; simp
        · rw [runs_end n' hq]; simp
    · rw [runs_end n hlt] at hr
      simp only [Prod.mk.injEq] at hr
      obtain ⟨rfl, rfl⟩ := hr
      rw [Nat.sub_self, Nat.add_zero] at hs ⊢
      refine ⟨Nat.le_refl _, Nat.le_refl _, ?_⟩
      by_cases hq : q < t.size
      · rw [runs_step n' hq, if_neg (hs hq)]; simp
      · rw [runs_end n' hq]; simp
theorem sub_len {s : ByteArray} {p n : Nat} (h : p + n ≤ s.size) : (sub s p n).length = n := by
  have : s.data.toList.length = s.size := by rw [Array.length_toList]; rfl
  unfold sub
  simp
  omega
theorem sub_get {s : ByteArray} {p n : Nat} {l : List UInt8} (h : sub s p n = l) {j : Nat} {c : UInt8} (hc : l[j]? = some c) : p + j < s.size ∧ by' s (p + j) = c.toNat := by
  rw [← h] at hc
  unfold sub at hc
  have hj : j < n := by
    have := (List.getElem?_eq_some_iff.1 hc).1
    simp at this
    omega
  rw [List.getElem?_take_of_lt hj, List.getElem?_drop] at hc
  exact by_list s hc
/-- Two texts that have the same bytes agree. -/
theorem ag_of {s t : ByteArray} {p q n : Nat} {l r : List UInt8} (hs : sub s p n = l) (ht : sub t q (n + r.length) = l ++ r) (hn : p + n ≤ s.size) (hq : q + n ≤ t.size) : Ag s t p q n := by
  refine ⟨hn, hq, fun j hj => ?_⟩
  have hl : l.length = n := by rw [← hs]; exact sub_len hn
  obtain ⟨c, hc⟩ : ∃ c, l[j]? = some c := ⟨_, List.getElem?_eq_getElem (by omega)⟩
  have h1 := sub_get hs hc
  have h2 := sub_get ht (c := c) (j := j) (by rw [List.getElem?_append_left (by omega)]; exact hc)
  omega
/-- A word that is read as itself wherever it stands ahead of a tab. -/
def Lx (w : Wd) : Prop := ∀ (t : ByteArray) (q col : Nat) (out : List Wd), sub t q (w.text.length + 1) = w.text ++ [9] → ∃ col', wsF t q col out = wsF t (q + w.text.length) col' (out ++ [⟨w.kind, w.text, col⟩])
theorem tab_at {t : ByteArray} {q : Nat} {l : List UInt8} (h : sub t q (l.length + 1) = l ++ [9]) : q + l.length < t.size ∧ by' t (q + l.length) = 9 := sub_get h (c := 9) (by simp)
theorem sub_pre {t : ByteArray} {q : Nat} {l : List UInt8} (h : sub t q (l.length + 1) = l ++ [9]) : sub t q l.length = l := by
  have := congrArg (List.take l.length) h
  unfold sub at this ⊢
  rw [List.take_take, List.take_append_of_le_length (Nat.le_refl _), List.take_length, show min l.length (l.length + 1) = l.length by omega] at this
  exact this
theorem ws_lex (s : ByteArray) : ∀ (m p col : Nat) (out ws : List Wd), s.size - p = m → p ≤ s.size → wsF s p col out = .ok ws → ∀ w ∈ ws, w ∈ out ∨ Lx w := by
  intro m
  induction m using Nat.strongRecOn with
  | ind m ih =>
    intro p col out ws hm hp h
    have push : ∀ (q c : Nat) (y : Wd), p < q → q ≤ s.size → Lx y → wsF s q c (out ++ [y]) = .ok ws → ∀ w ∈ ws, w ∈ out ∨ Lx w := fun q c y h1 h2 h3 h4 w hw => by
      rcases ih _ (by omega) q c _ ws rfl h2 h4 w hw with h5 | h5
      · rcases List.mem_append.1 h5 with h5 | h5
        · exact .inl h5
        · rw [List.mem_singleton.1 h5]
          exact .inr h3
      · exact .inr h5
    by_cases hlt : p < s.size
    · have hw := wd_pos s p
      have hwl := wd_le s p hlt
      rw [ws_step col out hlt] at h
      by_cases h1 : cls (rn s p) = 1
      · rw [if_pos h1] at h
        exact ih _ (by omega) (p + wd s p) (col + 1) out ws rfl hwl h
      rw [if_neg h1] at h
      by_cases h2 : rn s p = 35
      · rw [if_pos h2] at h
        injection h with h
        subst h
        exact fun w hw => .inl hw
      rw [if_neg h2] at h
      by_cases h3 : rn s p = 34
      · rw [if_pos h3] at h
        have hq := (quo_le s _ (p + 1) (col + 1) rfl (by omega)).1
        cases he : quo s (p + 1) (col + 1) with
        | error e => rw [he] at h; cases h
        | ok x =>
          obtain ⟨q, c⟩ := x
          rw [he] at h
          have hqq := hq q c he
          refine push q c _ (by omega) (by omega) ?_ h
          intro t q' col' out' ht
          simp only at ht ⊢
          have hl : (sub s p (q - p)).length = q - p := sub_len (by omega)
          have htab := tab_at ht
          have hsub := sub_pre ht
          rw [hl] at ht htab hsub ⊢
          have ha := ag_of (s := s) (p := p) (n := q - p) (r := [9]) rfl ht (by omega) (by omega)
          have hr := rn_low s p (by omega)
          have hx := ha.rune (by omega) (by_low s p hr.2.2).2.2
          have hp1 := ha.part 1 (q - (p + 1)) (by omega)
          have hqt := Ag.quo _ (p + 1) (q' + 1) (col + 1) (col' + 1) q c rfl (by omega) he hp1
          rw [ws_step col' out' (show q' < t.size by omega), hx.1, if_neg h1, if_neg h2, if_pos h3, hqt]
          simp only
          rw [show q' + 1 + (q - (p + 1)) = q' + (q - p) by omega, show q' + (q - p) - q' = q - p by omega, hsub]
          exact ⟨_, rfl⟩
      rw [if_neg h3] at h
      by_cases h4 : cls (rn s p) = 5
      · rw [if_pos h4] at h
        refine push (p + 1) (col + 1) _ (by omega) (by omega) ?_ h
        intro t q' col' out' ht
        simp only at ht ⊢
        have hl : (sub s p 1).length = 1 := sub_len (by omega)
        have htab := tab_at ht
        have hsub := sub_pre ht
        rw [hl] at ht htab hsub ⊢
        have ha := ag_of (s := s) (p := p) (n := 1) (r := [9]) rfl ht (by omega) (by omega)
        have hlo : lo s p = false := by
          cases hl : lo s p with
          | false => rfl
          | true => have := lo_class s p hl; omega
        have hx := ha.rune (by rw [mark_wd s p h4]; exact Nat.le_refl _) hlo
        rw [ws_step col' out' (show q' < t.size by omega), hx.1, if_neg h1, if_neg h2, if_neg h3, if_pos h4, hsub]
        exact ⟨_, rfl⟩
      rw [if_neg h4] at h
      have hrun : ∀ (e k : Nat) (t : ByteArray) (q' : Nat), run s p = (e, k) → (cls (rn s p) = 3 ∨ cls (rn s p) = 4) → sub t q' ((sub s p (e - p)).length + 1) = sub s p (e - p) ++ [9] → rn t q' = rn s p ∧ q' < t.size ∧ (sub s p (e - p)).length = e - p ∧ sub t q' (e - p) = sub s p (e - p) ∧ run t q' = (q' + (e - p), k) := by
        intro e k t q' hek hc ht
        have hf := run_first hlt hc
        rw [hek] at hf
        simp only at hf
        have hl : (sub s p (e - p)).length = e - p := sub_len (by omega)
        have htab := tab_at ht
        have hsub := sub_pre ht
        rw [hl] at ht htab hsub
        have ha := ag_of (s := s) (p := p) (n := e - p) (r := [9]) rfl ht (by omega) (by omega)
        have hlo : lo s p = false := by
          cases hl : lo s p with
          | false => rfl
          | true => have := lo_class s p hl; omega
        have hrs : runs s p 0 = (e, k) := hek
        have hwe : wd s p ≤ e - p := by
          have h1 := hrs
          rw [runs_step 0 hlt, if_pos hc] at h1
          have := runF_le s (s.size - (p + wd s p)) (p + wd s p) (0 + 1) hwl
          rw [← show Go.Ear.runs s (p + wd s p) (0 + 1) = runF s (s.size - (p + wd s p)) (p + wd s p) (0 + 1) from rfl, h1] at this
          have := this.1
          simp only at this
          omega
        have hx := ha.rune hwe hlo
        have hstop : rn t (q' + (e - p)) = 9 := by
          have := by_low t (q' + (e - p)) (by omega)
          rw [this.2.1, htab.2]
          rfl
        have hrt := Ag.runs _ p q' 0 0 e k rfl (by omega) hrs ha (fun _ => by rw [hstop]; decide)
        refine ⟨hx.1, by omega, hl, hsub, ?_⟩
        have : run t q' = runs t q' 0 := rfl
        rw [this, hrt.2.2]
        simp
      by_cases h5 : cls (rn s p) = 4
      · rw [if_pos h5] at h
        have hr := run_first hlt (.inr h5)
        split at h
        · cases h
        · rename_i h128
          refine push (run s p).1 _ _ (by omega) (by omega) ?_ h
          intro t q' col' out' ht
          simp only at ht ⊢
          obtain ⟨k1, k2, k3, k4, k5⟩ := hrun (run s p).1 (run s p).2 t q' rfl (.inr h5) ht
          rw [ws_step col' out' k2, k1, if_neg h1, if_neg h2, if_neg h3, if_neg h4, if_pos h5, k5]
          simp only
          rw [if_neg h128, k3, show q' + ((run s p).1 - p) - q' = (run s p).1 - p by omega, k4]
          exact ⟨_, rfl⟩
      rw [if_neg h5] at h
      by_cases h6 : cls (rn s p) = 3
      · rw [if_pos h6] at h
        have hr := run_first hlt (.inl h6)
        split at h
        · cases h
        · rename_i hnum
          refine push (run s p).1 _ _ (by omega) (by omega) ?_ h
          intro t q' col' out' ht
          simp only at ht ⊢
          obtain ⟨k1, k2, k3, k4, k5⟩ := hrun (run s p).1 (run s p).2 t q' rfl (.inl h6) ht
          rw [ws_step col' out' k2, k1, if_neg h1, if_neg h2, if_neg h3, if_neg h4, if_neg h5, if_pos h6, k5]
          simp only
          rw [show q' + ((run s p).1 - p) - q' = (run s p).1 - p by omega, k4, if_neg hnum, k3]
          exact ⟨_, rfl⟩
      rw [if_neg h6] at h
      cases h
    · rw [ws_end col out hlt] at h
      injection h with h
      subst h
      exact fun w hw => .inl hw
/-- A word without its column. -/
def Wd.bare (w : Wd) : Wd := { w with col := 0 }
/-- A line's words laid anew. -/
def lnW (ws : List Wd) : List UInt8 := ws.flatMap fun w => [32, 32] ++ w.text ++ [9]
def lnB (ws : List Wd) : List UInt8 := lnW ws ++ [9, 35, 32, 34]
theorem low_at (l : List UInt8) (t : ByteArray) (ht : t.data.toList = l) (p : Nat) (c : UInt8) (hc : l[p]? = some c) (h : c.toNat < 128) : p < t.size ∧ rn t p = (c.toNat : Nat) ∧ wd t p = 1 := by
  have h1 := by_list t (i := p) (c := c) (by rw [ht]; exact hc)
  have h2 := by_low t p (by omega)
  exact ⟨h1.1, by rw [h2.2.1, h1.2], h2.1⟩
theorem blank_step (l : List UInt8) (t : ByteArray) (ht : t.data.toList = l) (p col : Nat) (out : List Wd) (c : UInt8) (hc : l[p]? = some c) (h : c = 32 ∨ c = 9) : wsF t p col out = wsF t (p + 1) (col + 1) out := by
  have hlow : c.toNat < 128 := by rcases h with rfl | rfl <;> decide
  have h1 := low_at l t ht p c hc hlow
  have hcl : cls (rn t p) = 1 := by
    rw [h1.2.1]
    rcases h with rfl | rfl <;> decide
  rw [ws_step col out h1.1, if_pos hcl, h1.2.2]
theorem ln_ws : ∀ (ws : List Wd) (pre : List UInt8) (t : ByteArray) (col : Nat) (out : List Wd), (∀ w ∈ ws, Lx w) → t.data.toList = pre ++ lnB ws → ∃ new, wsF t pre.length col out = .ok (out ++ new) ∧ new.map Wd.bare = ws.map Wd.bare
  | [], pre, t, col, out, _, ht => by
    have e : pre ++ lnB [] = pre ++ [9, 35, 32, 34] := rfl
    rw [e] at ht
    refine ⟨[], ?_, rfl⟩
    rw [blank_step _ t ht pre.length col out 9 (by simp) (.inr rfl)]
    have h1 := low_at _ t ht (pre.length + 1) 35 (by simp) (by decide)
    have hr : rn t (pre.length + 1) = 35 := by rw [h1.2.1]; rfl
    rw [ws_step _ out h1.1, hr, if_neg (by decide), if_pos rfl, List.append_nil]
  | w :: ws, pre, t, col, out, hx, ht => by
    have e : pre ++ lnB (w :: ws) = pre ++ [32, 32] ++ w.text ++ [9] ++ lnB ws := by simp [lnB, lnW]
    rw [e] at ht
    have e2 : pre ++ [32, 32] ++ w.text ++ [9] ++ lnB ws = (pre ++ [32, 32]) ++ ((w.text ++ [9]) ++ lnB ws) := by simp
    have hs : sub t (pre.length + 2) (w.text.length + 1) = w.text ++ [9] := by
      unfold sub
      rw [ht, e2, List.drop_append_of_le_length (by simp), List.drop_of_length_le (by simp), List.nil_append, List.take_append_of_le_length (by simp), List.take_of_length_le (by simp)]
    obtain ⟨c1, h1⟩ := hx w (by simp) t (pre.length + 2) (col + 2) out hs
    obtain ⟨new, h2, h3⟩ := ln_ws ws (pre ++ [32, 32] ++ w.text ++ [9]) t (c1 + 1) (out ++ [⟨w.kind, w.text, col + 2⟩]) (fun w' h => hx w' (by simp [h])) ht
    refine ⟨⟨w.kind, w.text, col + 2⟩ :: new, ?_, by simp [h3, Wd.bare]⟩
    rw [blank_step _ t ht pre.length col out 32 (by simp) (.inl rfl), blank_step _ t ht (pre.length + 1) _ out 32 (by simp) (.inl rfl), show pre.length + 1 + 1 = pre.length + 2 by omega, show col + 1 + 1 = col + 2 by omega, h1]
    rw [blank_step _ t ht (pre.length + 2 + w.text.length) c1 _ 9 (by
      rw [show pre ++ [32, 32] ++ w.text ++ [9] ++ lnB ws = (pre ++ [32, 32] ++ w.text) ++ ([9] ++ lnB ws) by simp, List.getElem?_append_right (by simp; omega)]
      have e9 : (pre ++ [(32 : UInt8), 32] ++ w.text).length = pre.length + 2 + w.text.length := by simp; omega
      rw [e9, Nat.sub_self]
      rfl) (.inr rfl)]
    rw [show pre.length + 2 + w.text.length + 1 = (pre ++ [32, 32] ++ w.text ++ [9]).length by simp; omega, h2]
    simp
/-- The text laid anew. -/
def blW (fr : List (Nat × List Wd)) : List UInt8 := fr.flatMap fun r => lnW r.2 ++ [9, 35, 32, 34, 10, 32, 10]
def blB (fr : List (Nat × List Wd)) : List UInt8 := [10, 35, 32, 112, 111, 108, 108, 10] ++ blW fr
theorem linesF_no : ∀ (l acc : List UInt8), (10 : UInt8) ∉ l → linesF l acc = [acc ++ l]
  | [], acc, _ => by simp [linesF]
  | c :: l, acc, h => by
    simp only [linesF]
    rw [if_neg (fun e => h (by simp [e])), linesF_no l _ (fun e => h (by simp [e]))]
    simp
theorem lines_no {l : List UInt8} (h : (10 : UInt8) ∉ l) : lines l = [l] := by
  unfold lines
  rw [linesF_no l [] h]
  rfl
theorem lnB_no {ws : List Wd} (h : ∀ w ∈ ws, (10 : UInt8) ∉ w.text) : (10 : UInt8) ∉ lnB ws := by
  unfold lnB lnW
  simp only [List.mem_append, List.mem_flatMap, not_or, not_exists, not_and]
  refine ⟨fun w hw => ?_, by decide⟩
  have := h w hw
  simp [this]
theorem lines_blW : ∀ (fr : List (Nat × List Wd)), (∀ r ∈ fr, ∀ w ∈ r.2, (10 : UInt8) ∉ w.text) → lines (blW fr) = (fr.flatMap fun r => [lnB r.2, [32]]) ++ [[]]
  | [], _ => rfl
  | r :: fr, h => by
    have e : blW (r :: fr) = lnB r.2 ++ 10 :: ([32] ++ 10 :: blW fr) := by simp [blW, lnB]
    rw [e, lines_append, lines_append, lines_blW fr (fun r' hr => h r' (by simp [hr])), lines_no (lnB_no (h r (by simp))), lines_no (by decide)]
    simp
theorem lines_blB (fr : List (Nat × List Wd)) (h : ∀ r ∈ fr, ∀ w ∈ r.2, (10 : UInt8) ∉ w.text) : lines (blB fr) = [] :: [35, 32, 112, 111, 108, 108] :: ((fr.flatMap fun r => [lnB r.2, [32]]) ++ [[]]) := by
  have e : blB fr = [] ++ 10 :: ([35, 32, 112, 111, 108, 108] ++ 10 :: blW fr) := by simp [blB]
  rw [e, lines_append, lines_append, lines_blW fr h, lines_no (by decide), lines_no (by decide)]
  rfl
theorem words_ln (ws : List Wd) (h : ∀ w ∈ ws, Lx w) : ∃ new, words ⟨(lnB ws).toArray⟩ = .ok new ∧ new.map Wd.bare = ws.map Wd.bare := by
  obtain ⟨new, h1, h2⟩ := ln_ws ws [] ⟨(lnB ws).toArray⟩ 1 [] h (by simp)
  exact ⟨new, by rw [words_ws]; exact h1, h2⟩
theorem words_blank (l : List UInt8) (h : l = [] ∨ l = [32] ∨ l = [35, 32, 112, 111, 108, 108]) : words ⟨l.toArray⟩ = .ok [] := by
  rw [words_ws]
  rcases h with rfl | rfl | rfl
  · rw [ws_end _ _ (by decide)]
  · rw [blank_step [32] _ rfl 0 1 [] 32 rfl (.inl rfl), ws_end _ _ (by decide)]
  · have h1 := low_at _ ⟨([35, 32, 112, 111, 108, 108] : List UInt8).toArray⟩ rfl 0 35 rfl (by decide)
    have hr : rn ⟨([35, 32, 112, 111, 108, 108] : List UInt8).toArray⟩ 0 = 35 := by rw [h1.2.1]; rfl
    rw [ws_step _ _ h1.1, hr, if_neg (by decide), if_pos rfl]
theorem scanF_skip (no : Nat) (l : List UInt8) (ls : List (List UInt8)) (h : l = [] ∨ l = [32] ∨ l = [35, 32, 112, 111, 108, 108]) (rows : List (Nat × List Wd × Nat)) (hr : scanF (no + 1) ls = .ok rows) : ∃ r2, scanF no (l :: ls) = .ok r2 ∧ full r2 = full rows := by
  simp only [scanF]
  rw [words_blank l h, hr]
  refine ⟨_, rfl, ?_⟩
  rw [full_cons]
  rfl
theorem scan_blW : ∀ (fr : List (Nat × List Wd)) (no : Nat), (∀ r ∈ fr, r.2 ≠ [] ∧ ∀ w ∈ r.2, Lx w) → ∃ rows, scanF no ((fr.flatMap fun r => [lnB r.2, [32]]) ++ [[]]) = .ok rows ∧ (full rows).map (fun r => r.2.map Wd.bare) = fr.map fun r => r.2.map Wd.bare
  | [], no, _ => by
    obtain ⟨r2, h1, h2⟩ := scanF_skip no [] [] (.inl rfl) [] rfl
    exact ⟨r2, h1, by rw [h2]; rfl⟩
  | r :: fr, no, h => by
    obtain ⟨rows, h1, h2⟩ := scan_blW fr (no + 1 + 1) (fun r' hr => h r' (by simp [hr]))
    obtain ⟨r2, h3, h4⟩ := scanF_skip (no + 1) [32] _ (.inr (.inl rfl)) rows h1
    have hr := h r (by simp)
    obtain ⟨new, h5, h6⟩ := words_ln r.2 hr.2
    have hne : new.isEmpty = false := by
      cases new with
      | nil =>
        have := congrArg List.length h6
        simp at this
        exact absurd (by simpa using this.symm) hr.1
      | cons _ _ => rfl
    refine ⟨(no + 1, new, cnt ⟨(lnB r.2).toArray⟩) :: r2, ?_, ?_⟩
    · simp only [List.flatMap_cons, List.cons_append, List.nil_append]
      rw [scanF, h5]
      simp only
      rw [h3]
    · rw [full_cons]
      simp only [hne, Bool.false_eq_true, if_false, List.map_cons]
      rw [h6, h4, h2]
/-- Without the columns words read as they did. -/
theorem fitsP_bare : ∀ (ps : List Pl) (ws : List Wd), fitsP ps (ws.map Wd.bare) = fitsP ps ws
  | [], [] => rfl
  | [], w :: ws => rfl
  | .sign :: ps, [] => rfl
  | .num i :: ps, [] => rfl
  | .text :: ps, [] => rfl
  | .sign :: ps, w :: ws => by simp only [List.map_cons, fitsP, fitsP_bare ps ws, Wd.bare]
  | .num i :: ps, w :: ws => by simp only [List.map_cons, fitsP, fitsP_bare ps ws, Wd.bare]
  | .text :: ps, w :: ws => by simp only [List.map_cons, fitsP, fitsP_bare ps ws, Wd.bare]
theorem readP_bare (l : List Int) : ∀ (ps : List Pl) (ws : List Wd) (s : StepS), readP l ps (ws.map Wd.bare) s = readP l ps ws s
  | [], [], s => rfl
  | [], w :: ws, s => rfl
  | .sign :: ps, [], s => rfl
  | .num i :: ps, [], s => rfl
  | .text :: ps, [], s => rfl
  | .sign :: ps, w :: ws, s => by simp only [List.map_cons, readP, readP_bare l ps ws, Wd.bare]
  | .num i :: ps, w :: ws, s => by simp only [List.map_cons, readP, readP_bare l ps ws, Wd.bare]
  | .text :: ps, w :: ws, s => by
    simp only [List.map_cons, readP, Wd.bare]
    cases unq ⟨w.text.toArray⟩ with
    | error e => rfl
    | ok b => simp only; exact readP_bare l ps ws _
theorem stepS_bare (l : List Int) (ws : List Wd) : stepS l (ws.map Wd.bare) = stepS l ws := by
  cases ws with
  | nil => rfl
  | cons w r =>
    simp only [List.map_cons, stepS, fitsP_bare, Wd.bare]
    cases stepRows.find? fun x => decide (w.kind = 2) && decide (w.text = x.1) && fitsP x.2.2 r with
    | none => rfl
    | some x => simp only; exact readP_bare l _ r _
theorem headS_bare (ws : List Wd) : headS (ws.map Wd.bare) = headS ws := by
  rcases ws with _ | ⟨w0, _ | ⟨w1, _ | ⟨w2, _ | ⟨w3, _ | ⟨w4, r⟩⟩⟩⟩⟩ <;> rfl
theorem stepsF_bare (l : List Int) : ∀ (a b : List (Nat × List Wd)) (acc s : List StepS), b.map (fun r => r.2.map Wd.bare) = a.map (fun r => r.2.map Wd.bare) → stepsF l a acc = .ok s → stepsF l b acc = .ok s
  | [], [], acc, s, _, h => h
  | [], _ :: _, acc, s, h, _ => by simp at h
  | _ :: _, [], acc, s, h, _ => by simp at h
  | (n1, w1) :: a, (n2, w2) :: b, acc, s, h, h2 => by
    simp only [List.map_cons, List.cons.injEq] at h
    have e : stepS l w2 = stepS l w1 := by rw [← stepS_bare l w2, h.1, stepS_bare]
    simp only [stepsF] at h2 ⊢
    rw [e]
    cases hs : stepS l w1 with
    | error e => rw [hs] at h2; cases h2
    | ok x =>
      rw [hs] at h2
      simp only at h2 ⊢
      by_cases hl : 4096 ≤ acc.length
      · rw [if_pos hl] at h2; cases h2
      · rw [if_neg hl] at h2 ⊢
        exact stepsF_bare l a b _ s h.2 h2
theorem sub_no {s : ByteArray} {i n : Nat} (h : (10 : UInt8) ∉ s.data.toList) : (10 : UInt8) ∉ sub s i n := fun hm => h (List.mem_of_mem_drop (List.mem_of_mem_take hm))
theorem linesF_none : ∀ (l acc : List UInt8), (10 : UInt8) ∉ acc → ∀ x ∈ linesF l acc, (10 : UInt8) ∉ x
  | [], acc, h, x, hx => by simp [linesF] at hx; subst hx; exact h
  | c :: l, acc, h, x, hx => by
    simp only [linesF] at hx
    split at hx
    · rcases List.mem_cons.1 hx with rfl | hx
      · exact h
      · exact linesF_none l [] (by simp) x hx
    · rename_i hc
      exact linesF_none l _ (by simp [h]; exact fun e => hc e.symm) x hx
theorem scanF_each : ∀ (ls : List (List UInt8)) (no : Nat) (rows : List (Nat × List Wd × Nat)), scanF no ls = .ok rows → ∀ r ∈ rows, ∃ l ∈ ls, words ⟨l.toArray⟩ = .ok r.2.1
  | [], no, rows, h => by
    simp only [scanF] at h
    injection h with h
    subst h
    intro r hr
    simp at hr
  | l :: ls, no, rows, h => by
    simp only [scanF] at h
    cases hw : words ⟨l.toArray⟩ with
    | error e => rw [hw] at h; cases h
    | ok ws =>
      rw [hw] at h
      simp only at h
      cases hr : scanF (no + 1) ls with
      | error e => rw [hr] at h; cases h
      | ok rs =>
        rw [hr] at h
        simp only at h
        injection h with h
        subst h
        intro r hr'
        rcases List.mem_cons.1 hr' with rfl | hr'
        · exact ⟨l, by simp, hw⟩
        · obtain ⟨l', h1, h2⟩ := scanF_each ls (no + 1) rs hr r hr'
          exact ⟨l', by simp [h1], h2⟩
theorem full_each {rows : List (Nat × List Wd × Nat)} {r : Nat × List Wd} (h : r ∈ full rows) : r.2 ≠ [] ∧ ∃ x ∈ rows, x.2.1 = r.2 := by
  simp only [full, List.mem_map, List.mem_filter] at h
  obtain ⟨x, ⟨hx, he⟩, rfl⟩ := h
  refine ⟨fun e => ?_, x, hx, rfl⟩
  simp only at e
  rw [e] at he
  cases he
theorem scan_words {t : List UInt8} {rows : List (Nat × List Wd × Nat)} (h : scan t = .ok rows) : ∀ r ∈ full rows, r.2 ≠ [] ∧ ∀ w ∈ r.2, Lx w ∧ (10 : UInt8) ∉ w.text := by
  unfold scan at h
  split at h
  · cases h
  · intro r hr
    obtain ⟨h1, x, hx, e⟩ := full_each hr
    refine ⟨h1, fun w hw => ?_⟩
    obtain ⟨l, hl, hwd⟩ := scanF_each _ 0 rows h x hx
    rw [e] at hwd
    rw [words_ws] at hwd
    constructor
    · rcases ws_lex _ _ 0 1 [] r.2 rfl (Nat.zero_le _) hwd w hw with h2 | h2
      · simp at h2
      · exact h2
    · rcases ws_sub _ _ 0 1 [] r.2 rfl (Nat.zero_le _) hwd w hw with h2 | ⟨i, n, h2⟩
      · simp at h2
      · rw [h2]
        exact sub_no (by simpa using linesF_none t [] (by simp) l hl)
/-- The law of ScriptBlanks. -/
theorem parse_blanks (t : List UInt8) (b : List UInt8) (f : Int) (L : List StepS) (h : parse t = .ok (b, f, L)) : ∃ rows, scan t = .ok rows ∧ ((blB (full rows)).length ≤ 65536 → parse (blB (full rows)) = .ok (b, f, L)) := by
  unfold parse at h
  cases hs : scan t with
  | error e => rw [hs] at h; cases h
  | ok rows =>
    rw [hs] at h
    refine ⟨rows, rfl, fun hlen => ?_⟩
    have hw := scan_words hs
    simp only at h
    obtain ⟨rows2, h1, h2⟩ := scan_blW (full rows) (0 + 1 + 1) (fun r hr => ⟨(hw r hr).1, fun w hx => ((hw r hr).2 w hx).1⟩)
    obtain ⟨r3, h3, h4⟩ := scanF_skip (0 + 1) [35, 32, 112, 111, 108, 108] _ (.inr (.inr rfl)) rows2 h1
    obtain ⟨r4, h5, h6⟩ := scanF_skip 0 [] _ (.inl rfl) r3 h3
    have hsc : scan (blB (full rows)) = .ok r4 := by
      unfold scan
      rw [if_neg (by omega), lines_blB _ (fun r hr w hx => ((hw r hr).2 w hx).2)]
      exact h5
    unfold parse
    rw [hsc]
    simp only
    rw [h6, h4]
    cases hf : full rows with
    | nil => rw [hf] at h; cases h
    | cons x r =>
      obtain ⟨no, ws⟩ := x
      rw [hf] at h h2
      cases hf2 : full rows2 with
      | nil => rw [hf2] at h2; simp at h2
      | cons x2 r2 =>
        obtain ⟨no2, ws2⟩ := x2
        rw [hf2] at h2
        simp only [List.map_cons, List.cons.injEq] at h2
        have e : headS ws2 = headS ws := by rw [← headS_bare ws2, h2.1, headS_bare]
        simp only at h ⊢
        rw [e]
        cases hh : headS ws with
        | error e => rw [hh] at h; cases h
        | ok p =>
          obtain ⟨b', l, f'⟩ := p
          rw [hh] at h
          simp only at h ⊢
          cases hst : stepsF l r [] with
          | error e => rw [hst] at h; cases h
          | ok st =>
            rw [hst] at h
            rw [stepsF_bare l r r2 [] st h2.2 hst]
            exact h
end Go.Ear
