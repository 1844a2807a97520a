/- Decimal numerals: plain words. -/
import Derived.Test.YtgohhallpkknfaaDoorTx
import Derived.Lib.ItoaNum
import Derived.Lib.AtoiAllCases
namespace Go.Ear
def isDig (c : UInt8) : Prop := 48 ≤ c.toNat ∧ c.toNat ≤ 57
instance (c : UInt8) : Decidable (isDig c) := by unfold isDig; infer_instance
/-- What digits spell, behind what has been read. -/
def dval : List UInt8 → Nat → Option Nat
  | [], acc => some acc
  | c :: r, acc => if isDig c then dval r (acc * 10 + (c.toNat - 48)) else none
theorem dval_snoc : ∀ (l : List UInt8) (c : UInt8) (acc : Nat), dval (l ++ [c]) acc = (dval l acc).bind fun v => if isDig c then some (v * 10 + (c.toNat - 48)) else none
  | [], c, acc => by simp [dval]
  | a :: l, c, acc => by
    simp only [List.cons_append, dval]
    split
    · exact dval_snoc l c _
    · rfl
theorem dig_byte (u : Nat) (h : u < 10) : (UInt8.ofNat (48 + u)).toNat = 48 + u := by
  rw [UInt8.toNat_ofNat']
  omega
theorem dval_dec (u : Nat) : dval (Lib.decDigits u) 0 = some u := by
  induction u using Nat.strongRecOn with
  | ind u ih =>
    by_cases h : u < 10
    · rw [Lib.decDigits_one h]
      have := dig_byte u h
      simp only [dval, isDig, this]
      rw [if_pos (by omega)]
      simp
    · have e : Lib.decDigits u = Lib.decDigits (u / 10) ++ [UInt8.ofNat (48 + u % 10)] := by
        conv => lhs; unfold Lib.decDigits
        rw [dif_neg h]
      have hb := dig_byte (u % 10) (Nat.mod_lt _ (by omega))
      rw [e, dval_snoc, ih (u / 10) (by omega), Option.bind_some]
      simp only [isDig, hb]
      rw [if_pos (by have := Nat.mod_lt u (show 0 < 10 by omega); omega)]
      congr 1
      omega
theorem dec_ne (u : Nat) : Lib.decDigits u ≠ [] := by
  unfold Lib.decDigits
  split <;> simp
/-- Digits without a needless nought. -/
def canon (l : List UInt8) : Prop := l ≠ [] ∧ (l.head? ≠ some 48 ∨ l.length = 1)
instance (l : List UInt8) : Decidable (canon l) := by unfold canon; infer_instance
theorem head_snoc {l : List UInt8} {c : UInt8} (h : l ≠ []) : (l ++ [c]).head? = l.head? := by
  cases l with
  | nil => exact absurd rfl h
  | cons a l => rfl
theorem dec_head (u : Nat) (h : 1 ≤ u) : (Lib.decDigits u).head? ≠ some 48 := by
  induction u using Nat.strongRecOn with
  | ind u ih =>
    by_cases h10 : u < 10
    · rw [Lib.decDigits_one h10]
      simp only [List.head?_cons, ne_eq, Option.some.injEq]
      intro e
      have := dig_byte u h10
      rw [e] at this
      simp at this
      omega
    · have e : Lib.decDigits u = Lib.decDigits (u / 10) ++ [UInt8.ofNat (48 + u % 10)] := by
        conv => lhs; unfold Lib.decDigits
        rw [dif_neg h10]
      rw [e, head_snoc (dec_ne _)]
      exact ih (u / 10) (by omega) (by omega)
theorem dec_canon (u : Nat) : canon (Lib.decDigits u) := by
  refine ⟨dec_ne u, ?_⟩
  by_cases h : u = 0
  · subst h
    right
    rw [Lib.decDigits_one (by omega)]
    rfl
  · exact .inl (dec_head u (by omega))
theorem byte_ofNat (c : UInt8) : UInt8.ofNat c.toNat = c := by simp
theorem canon_dec (n : Nat) : ∀ (l : List UInt8), l.length = n → ∀ v, canon l → dval l 0 = some v → Lib.decDigits v = l := by
  induction n with
  | zero =>
    intro l hl v hc
    exact absurd (List.length_eq_zero_iff.1 hl) hc.1
  | succ n ih =>
    intro l hl v hc hv
    obtain ⟨l', c, rfl⟩ : ∃ l' c, l = l' ++ [c] := ⟨l.dropLast, l.getLast hc.1, (List.dropLast_concat_getLast hc.1).symm⟩
    have hl' : l'.length = n := by simpa using hl
    rw [dval_snoc] at hv
    by_cases h0 : l' = []
    · subst h0
      simp only [dval, Option.bind_some] at hv
      by_cases hd : isDig c
      · rw [if_pos hd] at hv
        simp at hv
        have hd' := hd
        unfold isDig at hd'
        rw [← hv, Lib.decDigits_one (by omega), show 48 + (c.toNat - 48) = c.toNat by omega, byte_ofNat]
        rfl
      · rw [if_neg hd] at hv
        cases hv
    · cases hv' : dval l' 0 with
      | none => rw [hv'] at hv; cases hv
      | some v' =>
        rw [hv', Option.bind_some] at hv
        by_cases hd : isDig c
        · rw [if_pos hd] at hv
          simp at hv
          have hd' := hd
          unfold isDig at hd'
          have hh : l'.head? ≠ some 48 := by
            rcases hc.2 with h | h
            · rwa [head_snoc h0] at h
            · simp at h
              exact absurd h h0
          have hdec := ih l' hl' v' ⟨h0, .inl hh⟩ hv'
          have hv1 : 1 ≤ v' := by
            rcases Nat.eq_zero_or_pos v' with h | h
            · subst h
              rw [Lib.decDigits_one (by omega)] at hdec
              rw [← hdec] at hh
              simp at hh
            · exact h
          have e : Lib.decDigits v = Lib.decDigits (v / 10) ++ [UInt8.ofNat (48 + v % 10)] := by
            conv => lhs; unfold Lib.decDigits
            rw [dif_neg (by omega)]
          rw [e, show v / 10 = v' by omega, hdec, show 48 + v % 10 = c.toNat by omega, byte_ofNat]
        · rw [if_neg hd] at hv
          cases hv
theorem dval_ge : ∀ (l : List UInt8) (acc v : Nat), dval l acc = some v → acc ≤ v
  | [], acc, v, h => by simp [dval] at h; omega
  | c :: r, acc, v, h => by
    simp only [dval] at h
    split at h
    · have := dval_ge r _ v h
      omega
    · cases h
/-- A tag's numeral. -/
def num (l : List UInt8) : Option Nat := if canon l then (dval l 0).bind fun v => if v ≤ 1048576 then some v else none else none
theorem num_dec (t : Nat) (h : t ≤ 1048576) : num (Lib.decDigits t) = some t := by
  unfold num
  rw [if_pos (dec_canon t), dval_dec]
  simp [h]
theorem num_some {l : List UInt8} {t : Nat} (h : num l = some t) : t ≤ 1048576 ∧ l = Lib.decDigits t := by
  unfold num at h
  split at h
  · rename_i hc
    cases hd : dval l 0 with
    | none => rw [hd] at h; cases h
    | some v =>
      rw [hd, Option.bind_some] at h
      split at h
      · simp at h
        subst h
        exact ⟨by assumption, (canon_dec _ l rfl _ hc hd).symm⟩
      · cases h
  · cases h
theorem parse_dval : ∀ (l : List UInt8) (acc v : Nat), dval l acc = some v → v ≤ 1000000000000 → Lib.parseUint10 acc l = .ok v
  | [], acc, v, h, _ => by
    simp [dval] at h
    simp [Lib.parseUint10, h]
  | c :: r, acc, v, h, hv => by
    have h2 := h
    simp only [dval] at h
    by_cases hd : isDig c
    · rw [if_pos hd] at h
      have hg := dval_ge r _ v h
      have hd' := hd
      unfold isDig at hd'
      simp only [Lib.parseUint10]
      rw [if_pos hd', if_neg (by omega), if_neg (by omega)]
      exact parse_dval r _ v h hv
    · rw [if_neg hd] at h
      cases h
theorem atoi_dec (t : Nat) (h : t ≤ 1000000000000) : Lib.atoiAll (Lib.decDigits t) = .ok (t : Int) := by
  have h1 := parse_dval _ 0 t (dval_dec t) h
  have h2 := dval_dec t
  have h3 := dec_ne t
  generalize Lib.decDigits t = l at *
  cases l with
  | nil => exact absurd rfl h3
  | cons c r =>
    have hd : isDig c := by
      simp only [dval] at h2
      split at h2
      · assumption
      · cases h2
    unfold isDig at hd
    have hm : Lib.parseMag (c :: r) = .ok t := by
      unfold Lib.parseMag
      rw [if_neg (by simp), h1]
    rw [Lib.atoiAll_plain c r (by omega) (by omega), hm]
    simp only [Lib.signless]
    rw [if_neg (by omega)]
/-- What Read answers: node, tag, kind, error. -/
def rdM (l : List UInt8) : Option (Int × Nat) := match l with
  | [] => none
  | m :: rest => if m = 33 then (num rest).map fun t => (1, t) else if m = 63 then (num rest).map fun t => (2, t) else none
def rdS (l : List Int) (s : ByteArray) : Int × Int × Int × Int :=
  if 65536 < s.size then (0, 0, 0, 2)
  else if s.size = 0 then (0, 0, 0, 80)
  else if lo s 0 = true ∨ rn s 0 ∉ l then (0, 0, 0, 80)
  else match rdM (s.data.toList.drop (wd s 0)) with
    | none => (0, 0, 0, 80)
    | some (k, t) => (fnd l (rn s 0) 0, (t : Int), k, 0)
end Go.Ear
