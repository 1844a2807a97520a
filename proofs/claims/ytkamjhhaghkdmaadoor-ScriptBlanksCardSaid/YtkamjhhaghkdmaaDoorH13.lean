/- Texts by characters: plain words over the model's own decoder. What the printed Class answers. -/
import Derived.Test.YtkamjhhaghkdmaaDoorH12
import Derived.Lib.RuneCount
import Derived.Lib.RuneBytes
import Derived.WalkMore
namespace Go.Ear
set_option linter.unusedSimpArgs false
set_option linter.unusedVariables false
set_option maxRecDepth 100000
/-- The rune at byte i, how many bytes it has, whether it is a loose byte. -/
def rn (s : ByteArray) (i : Nat) : Int := ((Utf8.decode s i).1 : Int)
def wd (s : ByteArray) (i : Nat) : Nat := (Utf8.decode s i).2
def lo (s : ByteArray) (i : Nat) : Bool := decide ((Utf8.decode s i).1 = 65533 ∧ (Utf8.decode s i).2 = 1)
/-- Byte i, 0 behind the end. -/
def by' (s : ByteArray) (i : Nat) : Nat := (s.get! i).toNat
theorem by_lt (s : ByteArray) (i : Nat) : by' s i < 256 := by
  unfold by'
  exact UInt8.toNat_lt _
/-- Is byte i one that goes on? -/
def go (s : ByteArray) (i : Nat) : Prop := i < s.size ∧ 128 ≤ by' s i ∧ by' s i ≤ 191
instance (s : ByteArray) (i : Nat) : Decidable (go s i) := by unfold go; infer_instance
theorem go_eq (s : ByteArray) (i : Nat) : (decide (i < s.size) && by' s i / 64 == 2) = decide (go s i) := by
  have := by_lt s i
  by_cases h : i < s.size
  · by_cases h2 : 128 ≤ by' s i ∧ by' s i ≤ 191
    · have : by' s i / 64 = 2 := by omega
      simp [go, h, h2, this]
    · have : by' s i / 64 ≠ 2 := by omega
      have h3 : ¬ go s i := fun hg => h2 hg.2
      simp [h, this, h3]
  · simp [go, h]
def v3 (b0 b1 b2 : Nat) : Nat := (b0 - 224) * 4096 + (b1 - 128) * 64 + b2 - 128
def v4 (b0 b1 b2 b3 : Nat) : Nat := (b0 - 240) * 262144 + (b1 - 128) * 4096 + (b2 - 128) * 64 + b3 - 128
/-- The decoder's answer, told by ranges of the first byte. -/
def decM (b0 b1 b2 b3 : Nat) (c1 c2 c3 : Bool) : Nat × Nat :=
  if b0 < 128 then (b0, 1)
  else if 194 ≤ b0 ∧ b0 ≤ 223 ∧ c1 = true then ((b0 - 192) * 64 + b1 - 128, 2)
  else if 224 ≤ b0 ∧ b0 ≤ 239 ∧ c1 = true ∧ c2 = true ∧ 2048 ≤ v3 b0 b1 b2 ∧ (v3 b0 b1 b2 < 55296 ∨ 57343 < v3 b0 b1 b2) then (v3 b0 b1 b2, 3)
  else if 240 ≤ b0 ∧ b0 ≤ 244 ∧ c1 = true ∧ c2 = true ∧ c3 = true ∧ 65536 ≤ v4 b0 b1 b2 b3 ∧ v4 b0 b1 b2 b3 ≤ 1114111 then (v4 b0 b1 b2 b3, 4)
  else (65533, 1)
def decN (b0 b1 b2 b3 : Nat) (c1 c2 c3 : Bool) : Nat × Nat :=
  if b0 < 0x80 then (b0, 1)
  else if b0 / 32 == 6 && c1 then
    let c := (b0 % 32) * 64 + b1 % 64
    if c ≥ 0x80 then (c, 2) else (Utf8.runeError, 1)
  else if b0 / 16 == 14 && c1 && c2 then
    let c := (b0 % 16) * 4096 + (b1 % 64) * 64 + b2 % 64
    if c ≥ 0x800 && Utf8.valid c then (c, 3) else (Utf8.runeError, 1)
  else if b0 / 8 == 30 && c1 && c2 && c3 then
    let c := (b0 % 8) * 262144 + (b1 % 64) * 4096 + (b2 % 64) * 64 + b3 % 64
    if c ≥ 0x10000 && Utf8.valid c then (c, 4) else (Utf8.runeError, 1)
  else (Utf8.runeError, 1)
theorem valid_iff (c : Nat) : Utf8.valid (c : Int) = true ↔ (c < 55296 ∨ (57343 < c ∧ c ≤ 1114111)) := by
  simp [Utf8.valid]
  omega
theorem decN_eq (b0 b1 b2 b3 : Nat) (c1 c2 c3 : Bool) (h0 : b0 < 256) (h1 : c1 = true → 128 ≤ b1 ∧ b1 ≤ 191) (h2 : c2 = true → 128 ≤ b2 ∧ b2 ≤ 191) (h3 : c3 = true → 128 ≤ b3 ∧ b3 ≤ 191) :
    decN b0 b1 b2 b3 c1 c2 c3 = decM b0 b1 b2 b3 c1 c2 c3 := by
  unfold decN decM
  by_cases a0 : b0 < 128
  · rw [if_pos a0, if_pos a0]
  rw [if_neg a0, if_neg a0]
  cases c1 with
  | false => simp [Utf8.runeError]
  | true =>
    have r1 := h1 rfl
    by_cases a1 : b0 / 32 = 6
    · have e : b0 % 32 * 64 + b1 % 64 = (b0 - 192) * 64 + b1 - 128 := by omega
      have n1 : ¬ 224 ≤ b0 := by omega
      have n2 : ¬ 240 ≤ b0 := by omega
      simp only [a1, beq_self_eq_true, Bool.and_self, if_true, e, n1, n2, false_and, if_false]
      by_cases a2 : 194 ≤ b0
      · have q : (b0 - 192) * 64 + b1 - 128 ≥ 128 := by omega
        have q2 : b0 ≤ 223 := by omega
        simp only [q, a2, q2, and_self, if_true]
      · have q : ¬ (b0 - 192) * 64 + b1 - 128 ≥ 128 := by omega
        simp only [q, a2, false_and, if_false, Utf8.runeError]
    · have n1 : ¬ (194 ≤ b0 ∧ b0 ≤ 223) := by omega
      have n1' : ¬ (194 ≤ b0 ∧ b0 ≤ 223 ∧ true = true) := fun h => n1 ⟨h.1, h.2.1⟩
      have x1 : (b0 / 32 == 6) = false := by simpa using a1
      rw [if_neg n1']
      simp only [x1, Bool.false_and, Bool.false_eq_true, if_false, Bool.and_true]
      by_cases a2 : b0 / 16 = 14
      · have n2 : ¬ 240 ≤ b0 := by omega
        have g1 : 224 ≤ b0 := by omega
        have g2 : b0 ≤ 239 := by omega
        cases c2 with
        | false => simp [Utf8.runeError, n2]
        | true =>
          have r2 := h2 rfl
          have e : b0 % 16 * 4096 + b1 % 64 * 64 + b2 % 64 = v3 b0 b1 b2 := by unfold v3; omega
          have hm : v3 b0 b1 b2 ≤ 65535 := by unfold v3; omega
          simp only [a2, beq_self_eq_true, Bool.and_self, if_true, e, n2, g1, g2, false_and, if_false, true_and]
          generalize v3 b0 b1 b2 = c at *
          by_cases hh : 2048 ≤ c ∧ (c < 55296 ∨ 57343 < c)
          · have hv : Utf8.valid (c : Int) = true := (valid_iff c).2 (by omega)
            have q : c ≥ 2048 := hh.1
            simp only [q, hv, decide_true, Bool.and_self, if_true, hh.1, hh.2, and_self]
          · rw [if_neg hh]
            by_cases q : c ≥ 2048
            · have hv : Utf8.valid (c : Int) = false := by
                cases hv : Utf8.valid (c : Int) with
                | false => rfl
                | true => have := (valid_iff c).1 hv; omega
              simp only [hv, Bool.and_false, Bool.false_eq_true, if_false, Utf8.runeError]
            · simp only [q, decide_false, Bool.false_and, Bool.false_eq_true, if_false, Utf8.runeError]
      · have n2 : ¬ (224 ≤ b0 ∧ b0 ≤ 239) := by omega
        have x2 : (b0 / 16 == 14) = false := by simpa using a2
        have n2' : ¬ (224 ≤ b0 ∧ b0 ≤ 239 ∧ True ∧ c2 = true ∧ 2048 ≤ v3 b0 b1 b2 ∧ (v3 b0 b1 b2 < 55296 ∨ 57343 < v3 b0 b1 b2)) := fun h => n2 ⟨h.1, h.2.1⟩
        rw [if_neg n2']
        simp only [x2, Bool.false_and, Bool.false_eq_true, if_false]
        by_cases a3 : b0 / 8 = 30
        · cases c2 with
          | false => simp [Utf8.runeError]
          | true =>
            cases c3 with
            | false => simp [Utf8.runeError]
            | true =>
              have r2 := h2 rfl
              have r3 := h3 rfl
              have e : b0 % 8 * 262144 + b1 % 64 * 4096 + b2 % 64 * 64 + b3 % 64 = v4 b0 b1 b2 b3 := by unfold v4; omega
              have hm : (b0 - 240) * 262144 ≤ v4 b0 b1 b2 b3 := by unfold v4; omega
              have g1 : 240 ≤ b0 := by omega
              simp only [a3, beq_self_eq_true, Bool.and_self, if_true, e, g1, true_and]
              generalize v4 b0 b1 b2 b3 = c at *
              by_cases hh : 65536 ≤ c ∧ c ≤ 1114111
              · have hv : Utf8.valid (c : Int) = true := (valid_iff c).2 (by omega)
                have q : c ≥ 65536 := hh.1
                have q2 : b0 ≤ 244 := by omega
                simp only [q, hv, decide_true, Bool.and_self, if_true, q2, hh.2, and_self]
              · have hh' : ¬ (b0 ≤ 244 ∧ 65536 ≤ c ∧ c ≤ 1114111) := fun h => hh h.2
                rw [if_neg hh']
                by_cases q : c ≥ 65536
                · have hv : Utf8.valid (c : Int) = false := by
                    cases hv : Utf8.valid (c : Int) with
                    | false => rfl
                    | true => have := (valid_iff c).1 hv; omega
                  simp only [hv, Bool.and_false, Bool.false_eq_true, if_false, Utf8.runeError]
                · simp only [q, decide_false, Bool.false_and, Bool.false_eq_true, if_false, Utf8.runeError]
        · have n4 : ¬ (240 ≤ b0 ∧ b0 ≤ 244) := by omega
          have x3 : (b0 / 8 == 30) = false := by simpa using a3
          have n4' : ¬ (240 ≤ b0 ∧ b0 ≤ 244 ∧ True ∧ c2 = true ∧ c3 = true ∧ 65536 ≤ v4 b0 b1 b2 b3 ∧ v4 b0 b1 b2 b3 ≤ 1114111) := fun h => n4 ⟨h.1, h.2.1⟩
          rw [if_neg n4']
          simp only [x3, Bool.false_and, Bool.false_eq_true, if_false, Utf8.runeError]
def decT (s : ByteArray) (i : Nat) : Nat × Nat := decM (by' s i) (by' s (i + 1)) (by' s (i + 2)) (by' s (i + 3)) (decide (go s (i + 1))) (decide (go s (i + 2))) (decide (go s (i + 3)))
theorem decode_eq (s : ByteArray) (i : Nat) : Utf8.decode s i = decT s i := by
  unfold decT
  rw [← decN_eq _ _ _ _ _ _ _ (by_lt s i) (fun h => (of_decide_eq_true h).2) (fun h => (of_decide_eq_true h).2) (fun h => (of_decide_eq_true h).2), ← go_eq, ← go_eq, ← go_eq]
  rfl
theorem wd_pos (s : ByteArray) (i : Nat) : 1 ≤ wd s i ∧ wd s i ≤ 4 := by
  unfold wd
  rw [decode_eq]
  unfold decT decM
  repeat' (split)
  all_goals simp
theorem wd_le (s : ByteArray) (i : Nat) (h : i < s.size) : i + wd s i ≤ s.size := by
  unfold wd
  rw [decode_eq]
  unfold decT decM
  simp only [decide_eq_true_eq]
  split
  · simp; omega
  split
  · rename_i h1; have := h1.2.2.1; simp; omega
  split
  · rename_i h1; have := h1.2.2.2.1.1; simp; omega
  split
  · rename_i h1; have := h1.2.2.2.2.1.1; simp; omega
  simp; omega
/-- The runes from byte p on. -/
def runesF (s : ByteArray) : Nat → Nat → List Int
  | 0, _ => []
  | f + 1, p => if p < s.size then rn s p :: runesF s f (p + wd s p) else []
theorem runesF_more (s : ByteArray) : ∀ (f g p : Nat), s.size ≤ p + f → s.size ≤ p + g → runesF s f p = runesF s g p
  | 0, 0, _, _, _ => rfl
  | 0, g + 1, p, h, _ => by simp only [runesF]; rw [if_neg (by omega)]
  | f + 1, 0, p, _, h => by simp only [runesF]; rw [if_neg (by omega)]
  | f + 1, g + 1, p, h, h' => by
    have := (wd_pos s p).1
    simp only [runesF]
    split
    · rw [runesF_more s f g (p + wd s p) (by omega) (by omega)]
    · rfl
def runes (s : ByteArray) (p : Nat) : List Int := runesF s (s.size - p) p
theorem runes_step {s : ByteArray} {p : Nat} (h : p < s.size) : runes s p = rn s p :: runes s (p + wd s p) := by
  have := (wd_pos s p).1
  unfold runes
  obtain ⟨f, hf⟩ : ∃ f, s.size - p = f + 1 := ⟨s.size - p - 1, by omega⟩
  rw [hf]
  simp only [runesF]
  rw [if_pos h, runesF_more s f (s.size - (p + wd s p)) (p + wd s p) (by omega) (by omega)]
theorem runes_end {s : ByteArray} {p : Nat} (h : ¬ p < s.size) : runes s p = [] := by
  unfold runes
  rw [show s.size - p = 0 by omega]
  rfl
theorem rn_bound (s : ByteArray) (i : Nat) : 0 ≤ rn s i ∧ rn s i ≤ 1114111 := by
  have b0 := by_lt s i
  have b1 := by_lt s (i + 1)
  unfold rn
  rw [decode_eq]
  unfold decT decM
  split
  · simp only; omega
  split
  · simp only; omega
  split
  · rename_i h; have b2 := by_lt s (i + 2); have := h.1; have := h.2.1; simp only [v3]; omega
  split
  · rename_i h; simp only; omega
  simp
/-- A rune's class: 1 blank, 2 end, 3 digit, 4 letter, 5 mark, 6 other. -/
def cls (r : Int) : Int :=
  if r = 9 ∨ r = 13 ∨ r = 32 then 1
  else if r = 10 then 2
  else if 48 ≤ r ∧ r ≤ 57 then 3
  else if (65 ≤ r ∧ r ≤ 90) ∨ (97 ≤ r ∧ r ≤ 122) then 4
  else if 192 ≤ r ∧ r ≤ 8191 then (if r = 215 ∨ r = 247 ∨ (768 ≤ r ∧ r ≤ 879) ∨ r = 5760 then 6 else 4)
  else if (12353 ≤ r ∧ r ≤ 55203) ∨ (127744 ≤ r ∧ r ≤ 129791) then 4
  else if 33 ≤ r ∧ r ≤ 126 then 5
  else 6
/-- Where a number stands in a list, -1: nowhere. -/
def fnd : List Int → Int → Int → Int
  | [], _, _ => -1
  | a :: l, x, i => if a = x then i else fnd l x (i + 1)
theorem fnd_neg : ∀ (l : List Int) (x i : Int), 0 ≤ i → (fnd l x i < 0 ↔ x ∉ l)
  | [], x, i, _ => by simp [fnd]
  | a :: l, x, i, h => by
    unfold fnd
    by_cases e : a = x
    · rw [if_pos e]
      simp [e]
      omega
    · rw [if_neg e, fnd_neg l x (i + 1) (by omega)]
      simp [Ne.symm e]
/-- The reference's signs: a step a rune. -/
def ros : List Int → List Int → List Int × Int × Int
  | [], acc => (acc, 0, 0)
  | r :: l, acc => if cls r ≠ 4 then ([], (acc.length : Int), 41) else if r ∈ acc then ([], (acc.length : Int), 42) else if 100 ≤ acc.length then ([], (acc.length : Int), 2) else ros l (acc ++ [r])
/-- What Read answers of a text: the signs, the place, the error. -/
def rosS (s : ByteArray) : List Int × Int × Int := if 65536 < s.size then ([], 0, 2) else if s.size = 0 then ([], 0, 40) else ros (runes s 0) []
theorem lo_class (s : ByteArray) (i : Nat) (h : lo s i = true) : cls (rn s i) = 6 := by
  have := (of_decide_eq_true h).1
  unfold rn
  rw [this]
  decide
theorem ros_len : ∀ (l acc : List Int), acc.length ≤ 100 → (ros l acc).1.length ≤ 100
  | [], acc, h => h
  | r :: l, acc, h => by
    unfold ros
    repeat' split
    · simp
    · simp
    · simp
    · exact ros_len l _ (by simp; omega)
theorem rosS_len (s : ByteArray) : (rosS s).1.length ≤ 100 := by
  unfold rosS
  repeat' split
  · simp
  · simp
  · exact ros_len _ _ (by simp)
end Go.Ear
namespace Go.Proofs.YtkamjhhaghkdmaaDoor
open Go.RowKit Go.Ear Go.Proofs.YtkamjhhaghkdmaaDoorW.PrintWords Go.Proofs.YtkamjhhaghkdmaaDoor.PScriptLines
set_option linter.unusedSimpArgs false
set_option linter.unusedVariables false
set_option maxRecDepth 100000
theorem bt_by (s : ByteArray) {i : Nat} (h : i < s.size) : bt s (i : Int) = (by' s i : Int) := by
  have e : s.get! i = s[i] := by
    rw [ByteArray.get!]
    simp [h]
    rfl
  simp only [bt, Int.toNat_natCast, h, dif_pos]
  unfold by'
  rw [e]
theorem wrap_add {i k : Nat} (h : i ≤ 4611686018427387904) (hk : k < 100) : wrap64 ((i : Int) + (k : Int)) = ((i + k : Nat) : Int) := by
  unfold wrap64
  omega
theorem wid {x : Int} (h : -1000000000000000 ≤ x) (h' : x ≤ 1000000000000000) : wrap64 x = x := by
  unfold wrap64
  omega
theorem rng {α : Type} (F : Bool → α) (x a b : Int) : (if x ≥ a then F (decide (x ≤ b)) else F false) = F (decide (a ≤ x ∧ x ≤ b)) := by
  by_cases h : a ≤ x <;> simp [h]
theorem rng2 {α : Type} (F : Bool → α) (x a b : Int) : (if x ≥ a then (if x ≤ b then F true else F false) else F false) = F (decide (a ≤ x ∧ x ≤ b)) := by
  by_cases h : a ≤ x <;> by_cases h' : x ≤ b <;> simp [h, h']
theorem isLetter_eq (k : Nat) (r : Int) : glyph_isLetter.f (k + 4) r = some (decide ((65 ≤ r ∧ r ≤ 90) ∨ (97 ≤ r ∧ r ≤ 122) ∨ (¬ (r = 215 ∨ r = 247 ∨ (768 ≤ r ∧ r ≤ 879) ∨ r = 5760) ∧ ((192 ≤ r ∧ r ≤ 8191) ∨ (12353 ≤ r ∧ r ≤ 55203) ∨ (127744 ≤ r ∧ r ≤ 129791))))) := by
  unfold glyph_isLetter.f
  rw [rng (fun b => glyph_isLetter.j0 (k + 4) r b)]
  simp only [glyph_isLetter.j0]
  rw [rng (fun b => glyph_isLetter.j1 (k + 3) r b)]
  simp only [glyph_isLetter.j1]
  rw [rng (fun b => glyph_isLetter.j2 (k + 2) r b)]
  simp only [glyph_isLetter.j2, decide_eq_true_eq]
  by_cases h1 : 65 ≤ r ∧ r ≤ 90
  · simp [h1]
  by_cases h2 : 97 ≤ r ∧ r ≤ 122
  · simp [h1, h2]
  simp only [h1, h2, if_false, false_or]
  repeat' split
  all_goals
    refine congrArg some (Bool.eq_iff_iff.2 ?_)
    simp only [decide_eq_true_eq, Bool.false_eq_true, false_iff, true_iff]
    omega
theorem class_eq (k : Nat) (r : Int) : glyph_Class.f (k + 8) r = some (cls r) := by
  have hL := isLetter_eq (k + 2) r
  have e : glyph_Class.f (k + 8) r = glyph_Class.j0 (k + 8) r (decide (r = 9 ∨ r = 13 ∨ r = 32)) := by
    unfold glyph_Class.f
    by_cases h9 : r = 9
    · simp [h9]
    by_cases h13 : r = 13
    · simp [h13]
    simp only [h9, h13, if_false, false_or]
    congr 1
  rw [e]
  simp only [glyph_Class.j0]
  rw [rng (fun b => glyph_Class.j1 (k + 7) r b)]
  simp only [glyph_Class.j1, hL, Option.bind_some, decide_eq_true_eq]
  unfold cls
  by_cases h1 : r = 9 ∨ r = 13 ∨ r = 32
  · simp [h1]
  by_cases h2 : r = 10
  · simp [h2]
  by_cases h3 : 48 ≤ r ∧ r ≤ 57
  · simp [h1, h2, h3]
  simp only [h1, h2, h3, if_false]
  by_cases h4 : (65 ≤ r ∧ r ≤ 90) ∨ (97 ≤ r ∧ r ≤ 122)
  · rw [if_pos h4, if_pos (by omega)]
  rw [if_neg h4]
  by_cases h5 : 192 ≤ r ∧ r ≤ 8191
  · rw [if_pos h5]
    by_cases h6 : r = 215 ∨ r = 247 ∨ (768 ≤ r ∧ r ≤ 879) ∨ r = 5760
    · rw [if_pos h6, if_neg (by omega), if_pos (by omega), if_neg (by omega)]
    · rw [if_neg h6, if_pos (by omega)]
  rw [if_neg h5]
  by_cases h6 : (12353 ≤ r ∧ r ≤ 55203) ∨ (127744 ≤ r ∧ r ≤ 129791)
  · rw [if_pos h6, if_pos (by omega)]
  rw [if_neg h6, if_neg (by omega)]
  by_cases h7 : 33 ≤ r ∧ r ≤ 126
  · rw [if_pos h7, if_pos (by omega), if_pos (by omega)]
  · rw [if_neg h7]
    split
    · rw [if_neg (by omega)]
    · rfl
end Go.Proofs.YtkamjhhaghkdmaaDoor
