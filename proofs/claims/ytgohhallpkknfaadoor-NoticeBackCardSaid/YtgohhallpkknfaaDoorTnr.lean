/- Notices as texts: what the printed parts of the reference come to. -/
import Derived.Test.YtgohhallpkknfaaDoorTyr
import Derived.Lib.ItoaNum
import Derived.Laws.BytesArg
namespace Go.Ear
/-- Is it a notice of n nodes? -/
def vld (n o t k : Int) : Bool := decide (1 ≤ n ∧ n ≤ 100 ∧ 0 ≤ o ∧ o < n ∧ 0 ≤ t ∧ t ≤ 1048576 ∧ (k = 1 ∨ k = 2))
def mkB (k : Int) : List UInt8 := if k = 2 then [63] else [33]
/-- A notice's text, as bytes. -/
def ntB (l : List Int) (o t k : Int) : List UInt8 := Lib.encodeRune (l.getD o.toNat 0) ++ mkB k ++ Lib.decDigits t.toNat
theorem cls_valid {r : Int} (h : cls r = 4) : 0 ≤ r ∧ r ≤ 1114111 ∧ ¬ (55296 ≤ r ∧ r ≤ 57343) := by
  unfold cls at h
  repeat' split at h
  all_goals omega
theorem enc_eq (r : Int) : Utf8.encode r = ⟨(Lib.encodeRune r).toArray⟩ := by
  unfold Utf8.encode Lib.encodeRune
  by_cases hv : (0 ≤ r ∧ r < 55296) ∨ (57344 ≤ r ∧ r ≤ 1114111)
  · have e : Utf8.valid r = true := by
      simp [Utf8.valid]
      omega
    obtain ⟨n, rfl⟩ := Int.eq_ofNat_of_zero_le (show 0 ≤ r by omega)
    simp only [e, if_true, Int.toNat_natCast]
    by_cases h1 : n < 128
    · rw [if_pos h1, Lib.encodeRuneZ_one (by omega) (by omega)]
      simp
    rw [if_neg h1]
    by_cases h2 : n < 2048
    · rw [if_pos h2, Lib.encodeRuneZ_two (by omega) (by omega)]
      simp only [List.map_cons, List.map_nil]
      rw [show (192 + (n : Int) / 64).toNat = 192 + n / 64 by omega, show (128 + (n : Int) % 64).toNat = 128 + n % 64 by omega]
    rw [if_neg h2]
    by_cases h3 : n < 65536
    · rw [if_pos h3, Lib.encodeRuneZ_three (by omega)]
      simp only [List.map_cons, List.map_nil]
      rw [show (224 + (n : Int) / 4096).toNat = 224 + n / 4096 by omega, show (128 + (n : Int) / 64 % 64).toNat = 128 + n / 64 % 64 by omega, show (128 + (n : Int) % 64).toNat = 128 + n % 64 by omega]
    rw [if_neg h3, Lib.encodeRuneZ_four (by omega) (by omega)]
    simp only [List.map_cons, List.map_nil]
    rw [show (240 + (n : Int) / 262144).toNat = 240 + n / 262144 by omega, show (128 + (n : Int) / 4096 % 64).toNat = 128 + n / 4096 % 64 by omega, show (128 + (n : Int) / 64 % 64).toNat = 128 + n / 64 % 64 by omega, show (128 + (n : Int) % 64).toNat = 128 + n % 64 by omega]
  · have e : Utf8.valid r = false := by
      cases h : Utf8.valid r with
      | false => rfl
      | true => simp [Utf8.valid] at h; omega
    rw [Lib.encodeRuneZ_bad (by omega)]
    simp only [e, Bool.false_eq_true, if_false, Utf8.runeError]
    decide
/-- Whole numbers as bytes, and back. -/
theorem strNums_bytes (l : List UInt8) : strOfNums (l.map fun x => (x.toNat : Int)) = ⟨l.toArray⟩ := by
  unfold strOfNums
  congr 2
  rw [List.map_map]
  conv => rhs; rw [← List.map_id l]
  apply List.map_congr_left
  intro x _
  simp
theorem strNums_enc (r : Int) : strOfNums (Lib.encodeRuneZ r) = ⟨(Lib.encodeRune r).toArray⟩ := by
  unfold strOfNums Lib.encodeRune
  congr 2
theorem ros_letters : ∀ (l acc : List Int), (∀ r ∈ acc, cls r = 4) → ∀ r ∈ (ros l acc).1, cls r = 4
  | [], acc, h => h
  | r :: l, acc, h => by
    unfold ros
    by_cases hc : cls r ≠ 4
    · rw [if_pos hc]
      simp
    rw [if_neg hc]
    by_cases hm : r ∈ acc
    · rw [if_pos hm]
      simp
    rw [if_neg hm]
    by_cases hl : 100 ≤ acc.length
    · rw [if_pos hl]
      simp
    rw [if_neg hl]
    refine ros_letters l _ fun x hx => ?_
    rcases List.mem_append.1 hx with hx | hx
    · exact h x hx
    · simp at hx
      subst hx
      simpa using hc
theorem rosS_letters (s : ByteArray) : ∀ r ∈ (rosS s).1, cls r = 4 := by
  unfold rosS
  split
  · simp
  split
  · simp
  exact ros_letters _ _ (by simp)
theorem dec_len (u : Nat) : 1 ≤ (Lib.decDigits u).length := by
  unfold Lib.decDigits
  split <;> simp
end Go.Ear
namespace Go.Proofs.YtgohhallpkknfaaDoor
open Go.RowKit Go.Ear Go.Proofs.YtgohhallpkknfaaDoorW.PrintWords Go.Proofs.YtgohhallpkknfaaDoor.PNoticeReads
set_option linter.unusedSimpArgs false
set_option linter.unusedVariables false
set_option maxRecDepth 100000
theorem vld_eq (n o t k : Int) : notice_Valid.f n o t k = some (vld n o t k) := by
  unfold notice_Valid.f notice_isTag.f notice_isKind.f vld
  by_cases h1 : n ≥ 1
  case neg => rw [if_neg h1]; simp; omega
  rw [if_pos h1]
  by_cases h2 : n ≤ 100
  case neg => rw [if_neg h2]; simp; omega
  rw [if_pos h2]
  by_cases h3 : o ≥ 0
  case neg => rw [if_neg h3]; simp; omega
  rw [if_pos h3]
  by_cases h4 : o < n
  case neg => rw [if_neg h4]; simp; omega
  rw [if_pos h4]
  by_cases h5 : t ≥ 0
  case neg => rw [if_neg h5]; simp; omega
  rw [if_pos h5]
  by_cases h6 : t ≤ 1048576
  case neg => simp [h6]
  by_cases h7 : k = 1
  · simp [h7, h6]; omega
  · simp [h7, h6]
    by_cases h8 : k = 2
    · simp [h8]; omega
    · simp [h8]
theorem alive_eq : earshotlaw5_alive.f = some true := by
  unfold earshotlaw5_alive.f
  rw [vld_eq]
  decide +kernel
theorem mark_eq (k : Int) : notice_mark.f k = some ⟨(mkB k).toArray⟩ := by
  unfold notice_mark.f mkB
  by_cases h : k = 2 <;> simp [h]
end Go.Proofs.YtgohhallpkknfaaDoor
