/- Characters: what glyph.char comes to. -/
import Derived.Test.YtgohhallpkknfaaDoorTyr
import Derived.Lib.Strings
namespace Go.Ear
set_option maxRecDepth 100000
/-- U+FFFD itself. -/
def hasFF (s : ByteArray) (i : Nat) : Bool := decide (i + 2 < s.size ∧ by' s i = 239 ∧ by' s (i + 1) = 191 ∧ by' s (i + 2) = 189)
theorem dec_cases (s : ByteArray) (i : Nat) : (wd s i = 1 ∧ rn s i < 128) ∨ (wd s i = 2 ∧ 128 ≤ rn s i ∧ rn s i ≤ 2047) ∨ (wd s i = 3 ∧ 2048 ≤ rn s i ∧ rn s i ≤ 65535 ∧ ¬ (55296 ≤ rn s i ∧ rn s i ≤ 57343)) ∨ (wd s i = 4 ∧ 65536 ≤ rn s i ∧ rn s i ≤ 1114111) ∨ (wd s i = 1 ∧ rn s i = 65533) := by
  have b0 := by_lt s i
  have b1 := by_lt s (i + 1)
  have b2 := by_lt s (i + 2)
  unfold rn wd
  rw [decode_eq]
  unfold decT decM
  split
  · left; simp; omega
  split
  · rename_i h; right; left
    obtain ⟨h1, h2, h3⟩ := h
    have := (of_decide_eq_true h3).2
    refine ⟨rfl, ?_, ?_⟩ <;> simp only <;> omega
  split
  · rename_i h; right; right; left
    obtain ⟨h1, h2, h3, h4, h5, h6⟩ := h
    have h3 := (of_decide_eq_true h3).2
    have h4 := (of_decide_eq_true h4).2
    have : v3 (by' s i) (by' s (i + 1)) (by' s (i + 2)) ≤ 65535 := by unfold v3; omega
    refine ⟨rfl, ?_, ?_, ?_⟩ <;> simp only <;> omega
  split
  · rename_i h; right; right; right; left
    obtain ⟨h1, h2, h3, h4, h5, h6, h7⟩ := h
    refine ⟨rfl, ?_, ?_⟩ <;> simp only <;> omega
  · right; right; right; right
    simp
theorem ff_iff (s : ByteArray) (i : Nat) (hr : rn s i = 65533) : (hasFF s i = true ∧ wd s i = 3) ∨ (hasFF s i = false ∧ wd s i = 1) := by
  have b0 := by_lt s i
  have b1 := by_lt s (i + 1)
  have b2 := by_lt s (i + 2)
  by_cases hf : hasFF s i = true
  · left
    refine ⟨hf, ?_⟩
    have hf' := of_decide_eq_true hf
    obtain ⟨h0, h1, h2, h3⟩ := hf'
    have g1 : go s (i + 1) := ⟨by omega, by omega, by omega⟩
    have g2 : go s (i + 2) := ⟨by omega, by omega, by omega⟩
    unfold wd
    rw [decode_eq]
    unfold decT decM
    rw [h1, h2, h3]
    simp [g1, g2, v3]
  · right
    refine ⟨by simpa using hf, ?_⟩
    rcases dec_cases s i with ⟨h, h'⟩ | ⟨h, h'⟩ | ⟨h, h'⟩ | ⟨h, h'⟩ | ⟨h, h'⟩
    · exact h
    · omega
    · exfalso
      apply hf
      unfold wd at h
      unfold rn at hr
      rw [decode_eq] at h hr
      unfold decT decM at h hr
      refine decide_eq_true ?_
      by_cases c0 : by' s i < 128
      · rw [if_pos c0] at h; simp at h
      rw [if_neg c0] at h hr
      by_cases c1 : 194 ≤ by' s i ∧ by' s i ≤ 223 ∧ decide (go s (i + 1)) = true
      · rw [if_pos c1] at h; simp at h
      rw [if_neg c1] at h hr
      by_cases c2 : 224 ≤ by' s i ∧ by' s i ≤ 239 ∧ decide (go s (i + 1)) = true ∧ decide (go s (i + 2)) = true ∧ 2048 ≤ v3 (by' s i) (by' s (i + 1)) (by' s (i + 2)) ∧ (v3 (by' s i) (by' s (i + 1)) (by' s (i + 2)) < 55296 ∨ 57343 < v3 (by' s i) (by' s (i + 1)) (by' s (i + 2)))
      · rw [if_pos c2] at hr
        obtain ⟨h1, h2, h3, h4, h5, h6⟩ := c2
        have h3 := of_decide_eq_true h3
        have h4 := of_decide_eq_true h4
        have e : v3 (by' s i) (by' s (i + 1)) (by' s (i + 2)) = 65533 := by simp only at hr; omega
        unfold v3 at e
        have q3 := h3.2
        have q4 := h4.2
        exact ⟨h4.1, by omega, by omega, by omega⟩
      rw [if_neg c2] at h
      split at h <;> simp at h
    · omega
    · exact h
theorem lo_ff (s : ByteArray) (i : Nat) : lo s i = (decide (rn s i = 65533) && !hasFF s i) := by
  by_cases hr : rn s i = 65533
  · have hr' : (Utf8.decode s i).1 = 65533 := by
      unfold rn at hr
      omega
    rcases ff_iff s i hr with ⟨h, h'⟩ | ⟨h, h'⟩
    · unfold wd at h'
      simp [lo, h, h', hr']
    · unfold wd at h'
      simp [lo, h, h', hr', hr]
  · have hr' : (Utf8.decode s i).1 ≠ 65533 := by
      unfold rn at hr
      omega
    simp [lo, hr, hr']
end Go.Ear
namespace Go.Proofs.YtgohhallpkknfaaDoor
open Go.RowKit Go.Ear Go.Proofs.YtgohhallpkknfaaDoorW.PrintWords Go.Proofs.YtgohhallpkknfaaDoor.PNoticeReads
set_option linter.unusedSimpArgs false
set_option linter.unusedVariables false
set_option maxRecDepth 100000
theorem runeLen_eq (k : Nat) (s : ByteArray) (i : Nat) (h : lo s i = false) : utf8_RuneLen.f (k + 3) (rn s i) = some (wd s i : Int) := by
  have hb := rn_bound s i
  unfold utf8_RuneLen.f
  rcases dec_cases s i with ⟨h1, h2⟩ | ⟨h1, h2, h3⟩ | ⟨h1, h2, h3, h4⟩ | ⟨h1, h2, h3⟩ | ⟨h1, h2⟩
  · rw [h1, if_neg (by omega), if_pos (by omega)]
    rfl
  · rw [h1, if_neg (by omega), if_neg (by omega), if_pos (by omega)]
    rfl
  · rw [h1, if_neg (by omega), if_neg (by omega), if_neg (by omega)]
    by_cases c : 55296 ≤ rn s i
    · rw [if_pos c, decide_eq_false (by omega), utf8_RuneLen.j0, if_neg Bool.false_ne_true, if_pos (by omega)]
      rfl
    · rw [if_neg c, utf8_RuneLen.j0, if_neg Bool.false_ne_true, if_pos (by omega)]
      rfl
  · rw [h1, if_neg (by omega), if_neg (by omega), if_neg (by omega), if_pos (by omega), decide_eq_false (by omega), utf8_RuneLen.j0, if_neg Bool.false_ne_true, if_neg (by omega), if_pos (by omega)]
    rfl
  · exfalso
    have : lo s i = true := by
      unfold rn wd at *
      refine decide_eq_true ⟨by omega, h1⟩
    rw [h] at this
    cases this
theorem list3 (l : List UInt8) (a b c : UInt8) : (l.take 3 = [a, b, c]) ↔ (l[0]? = some a ∧ l[1]? = some b ∧ l[2]? = some c) := by
  match l with
  | [] => simp
  | [x] => simp
  | [x, y] => simp
  | x :: y :: z :: r => simp
theorem hp_eq (s : ByteArray) (i : Nat) (hi : i < s.size) : strings_HasPrefix.f (s.extract (i : Int).toNat s.size) (⟨#[239, 191, 189]⟩ : ByteArray) = some (hasFF s i) := by
  unfold strings_HasPrefix.f stringslite_HasPrefix.f
  have e3 : (⟨#[239, 191, 189]⟩ : ByteArray).size = 3 := rfl
  rw [e3, Int.toNat_natCast]
  have hsz : (s.extract i s.size).size = s.size - i := by
    rw [ByteArray.size_extract]
    omega
  rw [hsz]
  have hlen : s.data.toList.length = s.size := by rw [Array.length_toList]; rfl
  by_cases h3 : i + 2 < s.size
  · rw [if_pos (by omega), if_pos (by omega), if_pos (by omega), Option.bind_some]
    refine congrArg some (Bool.eq_iff_iff.2 ?_)
    rw [beq_iff_eq, Lib.toList_data, Lib.toList_data]
    have e : ((s.extract i s.size).extract 0 ((3 : Nat) : Int).toNat).data.toList = (s.data.toList.drop i).take 3 := by
      rw [ByteArray.data_extract, Array.toList_extract, ByteArray.data_extract, Array.toList_extract]
      rw [List.extract_eq_take_drop, List.extract_eq_take_drop, List.drop_zero]
      rw [List.take_of_length_le (l := s.data.toList.drop i) (by rw [List.length_drop]; omega)]
      rfl
    rw [e, show (⟨#[239, 191, 189]⟩ : ByteArray).data.toList = [239, 191, 189] from rfl, list3]
    have hg : ∀ j, i + j < s.size → (s.data.toList.drop i)[j]? = some (UInt8.ofNat (by' s (i + j))) := fun j hj => by
      rw [List.getElem?_drop, List.getElem?_eq_getElem (by omega)]
      have e : s.get! (i + j) = s[i + j] := by
        rw [ByteArray.get!]
        simp [hj]
        rfl
      unfold by'
      rw [e]
      simp
      rfl
    have b0 := by_lt s i
    have b1 := by_lt s (i + 1)
    have b2 := by_lt s (i + 2)
    have inj : ∀ a b : Nat, a < 256 → b < 256 → (UInt8.ofNat a = UInt8.ofNat b ↔ a = b) := fun a b ha hb => by
      constructor
      · intro h
        have := congrArg UInt8.toNat h
        simpa [Nat.mod_eq_of_lt ha, Nat.mod_eq_of_lt hb] using this
      · intro h; rw [h]
    rw [hg 0 (by omega), hg 1 (by omega), hg 2 (by omega)]
    have k1 := inj (by' s (i + 0)) 239 b0 (by omega)
    have k2 := inj (by' s (i + 1)) 191 b1 (by omega)
    have k3 := inj (by' s (i + 2)) 189 b2 (by omega)
    unfold hasFF
    rw [decide_eq_true_eq]
    constructor
    · rintro ⟨h1, h2, h4⟩
      exact ⟨h3, k1.1 (Option.some.inj h1), k2.1 (Option.some.inj h2), k3.1 (Option.some.inj h4)⟩
    · rintro ⟨_, h1, h2, h4⟩
      exact ⟨congrArg some (k1.2 h1), congrArg some (k2.2 h2), congrArg some (k3.2 h4)⟩
  · have : hasFF s i = false := by
      unfold hasFF
      exact decide_eq_false (fun h => h3 h.1)
    rw [if_neg (by omega), this]
    rfl
theorem char_eq (k : Nat) (s : ByteArray) (i : Nat) (hi : i < s.size) : glyph_char.f (k + 3) s (i : Int) (rn s i) = some (rn s i, (i : Int), (wd s i : Int), lo s i) := by
  unfold glyph_char.f glyph_size.f
  by_cases hr : rn s i = 65533
  · rw [if_pos hr, if_pos (by omega), if_pos (by omega), hp_eq s i hi, Option.bind_some]
    have hl := lo_ff s i
    rw [hr] at hl
    rcases ff_iff s i hr with ⟨h, h'⟩ | ⟨h, h'⟩
    · have hlo : lo s i = false := by rw [hl, h]; rfl
      have := runeLen_eq k s i hlo
      rw [if_pos h, this, hlo]
      rfl
    · have hlo : lo s i = true := by rw [hl, h]; rfl
      rw [h, if_neg Bool.false_ne_true, hlo, h']
      rfl
  · have hlo : lo s i = false := by rw [lo_ff]; simp [hr]
    have := runeLen_eq k s i hlo
    rw [if_neg hr, this, hlo]
    rfl
end Go.Proofs.YtgohhallpkknfaaDoor
