/- Characters there and back: a rune's bytes read as that rune; what is read is those bytes. -/
import Derived.Test.YtkamjhhaghkdmaaDoorH18

namespace Go.Ear
set_option linter.unusedSimpArgs false
set_option linter.unusedVariables false
set_option maxRecDepth 100000
theorem by_list (s : ByteArray) {i : Nat} {c : UInt8} (h : s.data.toList[i]? = some c) : i < s.size ∧ by' s i = c.toNat := by
  obtain ⟨hi, e⟩ := List.getElem?_eq_some_iff.1 h
  have hi' : i < s.size := by simpa using hi
  refine ⟨hi', ?_⟩
  have e2 : s.get! i = s[i] := by
    rw [ByteArray.get!]
    simp [hi']
    rfl
  unfold by'
  rw [e2, ← e]
  rfl
theorem list_by (s : ByteArray) {i : Nat} (h : i < s.size) : s.data.toList[i]? = some (UInt8.ofNat (by' s i)) := by
  have hlen : s.data.toList.length = s.size := by rw [Array.length_toList]; rfl
  have hi : i < s.data.toList.length := by omega
  rw [List.getElem?_eq_getElem hi]
  have := by_list s (List.getElem?_eq_getElem hi)
  rw [this.2]
  simp
theorem dec_full (s : ByteArray) (i : Nat) : (wd s i = 1 ∧ rn s i = by' s i ∧ by' s i < 128) ∨ (wd s i = 2 ∧ 194 ≤ by' s i ∧ by' s i ≤ 223 ∧ go s (i + 1) ∧ rn s i = (((by' s i - 192) * 64 + by' s (i + 1) - 128 : Nat) : Int)) ∨
    (wd s i = 3 ∧ 224 ≤ by' s i ∧ by' s i ≤ 239 ∧ go s (i + 1) ∧ go s (i + 2) ∧ rn s i = (v3 (by' s i) (by' s (i + 1)) (by' s (i + 2)) : Nat) ∧ 2048 ≤ v3 (by' s i) (by' s (i + 1)) (by' s (i + 2)) ∧ (v3 (by' s i) (by' s (i + 1)) (by' s (i + 2)) < 55296 ∨ 57343 < v3 (by' s i) (by' s (i + 1)) (by' s (i + 2)))) ∨
    (wd s i = 4 ∧ 240 ≤ by' s i ∧ by' s i ≤ 244 ∧ go s (i + 1) ∧ go s (i + 2) ∧ go s (i + 3) ∧ rn s i = (v4 (by' s i) (by' s (i + 1)) (by' s (i + 2)) (by' s (i + 3)) : Nat) ∧ 65536 ≤ v4 (by' s i) (by' s (i + 1)) (by' s (i + 2)) (by' s (i + 3)) ∧ v4 (by' s i) (by' s (i + 1)) (by' s (i + 2)) (by' s (i + 3)) ≤ 1114111) ∨
    (wd s i = 1 ∧ rn s i = 65533 ∧ lo s i = true) := by
  unfold rn wd lo
  rw [decode_eq]
  unfold decT decM
  split
  · left; exact ⟨rfl, rfl, by assumption⟩
  split
  · rename_i h
    obtain ⟨h1, h2, h3⟩ := h
    right; left
    exact ⟨rfl, h1, h2, of_decide_eq_true h3, rfl⟩
  split
  · rename_i h
    obtain ⟨h1, h2, h3, h4, h5, h6⟩ := h
    right; right; left
    exact ⟨rfl, h1, h2, of_decide_eq_true h3, of_decide_eq_true h4, rfl, h5, h6⟩
  split
  · rename_i h
    obtain ⟨h1, h2, h3, h4, h5, h6, h7⟩ := h
    right; right; right; left
    exact ⟨rfl, h1, h2, of_decide_eq_true h3, of_decide_eq_true h4, of_decide_eq_true h5, rfl, h6, h7⟩
  · right; right; right; right
    exact ⟨rfl, rfl, by simp⟩
theorem enc_one {r : Int} (h0 : 0 ≤ r) (h1 : r ≤ 127) : Lib.encodeRune r = [UInt8.ofNat r.toNat] := by
  unfold Lib.encodeRune
  rw [Lib.encodeRuneZ_one h0 h1]
  rfl
theorem enc_two {r : Int} (h0 : 128 ≤ r) (h1 : r ≤ 2047) : Lib.encodeRune r = [UInt8.ofNat (192 + r / 64).toNat, UInt8.ofNat (128 + r % 64).toNat] := by
  unfold Lib.encodeRune
  rw [Lib.encodeRuneZ_two h0 h1]
  rfl
theorem enc_three {r : Int} (h : (2048 ≤ r ∧ r < 55296) ∨ (57343 < r ∧ r ≤ 65535)) : Lib.encodeRune r = [UInt8.ofNat (224 + r / 4096).toNat, UInt8.ofNat (128 + r / 64 % 64).toNat, UInt8.ofNat (128 + r % 64).toNat] := by
  unfold Lib.encodeRune
  rw [Lib.encodeRuneZ_three h]
  rfl
theorem enc_four {r : Int} (h0 : 65536 ≤ r) (h1 : r ≤ 1114111) : Lib.encodeRune r = [UInt8.ofNat (240 + r / 262144).toNat, UInt8.ofNat (128 + r / 4096 % 64).toNat, UInt8.ofNat (128 + r / 64 % 64).toNat, UInt8.ofNat (128 + r % 64).toNat] := by
  unfold Lib.encodeRune
  rw [Lib.encodeRuneZ_four h0 h1]
  rfl
theorem take_by (s : ByteArray) (i : Nat) : ∀ n, i + n ≤ s.size → (s.data.toList.drop i).take n = (List.range n).map fun j => UInt8.ofNat (by' s (i + j))
  | 0, _ => by simp
  | n + 1, h => by
    rw [List.take_add_one, take_by s i n (by omega), List.getElem?_drop, list_by s (show i + n < s.size by omega), List.range_succ, List.map_append]
    rfl
/-- What is read are the rune's bytes. -/
theorem enc_dec (s : ByteArray) (i : Nat) (hi : i < s.size) (hl : lo s i = false) : Lib.encodeRune (rn s i) = (s.data.toList.drop i).take (wd s i) := by
  rw [take_by s i (wd s i) (wd_le s i hi)]
  have b0 := by_lt s i
  rcases dec_full s i with ⟨h, hr, hb⟩ | ⟨h, h1, h2, g1, hr⟩ | ⟨h, h1, h2, g1, g2, hr, hv, hv'⟩ | ⟨h, h1, h2, g1, g2, g3, hr, hv, hv'⟩ | ⟨h, hr, h'⟩
  · rw [h, hr, enc_one (by omega) (by omega)]
    simp
  · have q1 := g1.2
    rw [h, hr, enc_two (by omega) (by omega)]
    have e1 : (192 + (((by' s i - 192) * 64 + by' s (i + 1) - 128 : Nat) : Int) / 64).toNat = by' s i := by omega
    have e2 : (128 + (((by' s i - 192) * 64 + by' s (i + 1) - 128 : Nat) : Int) % 64).toNat = by' s (i + 1) := by omega
    rw [e1, e2]
    rfl
  · have q1 := g1.2
    have q2 := g2.2
    have hm : v3 (by' s i) (by' s (i + 1)) (by' s (i + 2)) ≤ 65535 := by unfold v3; omega
    rw [h, hr, enc_three (by omega)]
    unfold v3
    have e1 : (224 + (((by' s i - 224) * 4096 + (by' s (i + 1) - 128) * 64 + by' s (i + 2) - 128 : Nat) : Int) / 4096).toNat = by' s i := by omega
    have e2 : (128 + (((by' s i - 224) * 4096 + (by' s (i + 1) - 128) * 64 + by' s (i + 2) - 128 : Nat) : Int) / 64 % 64).toNat = by' s (i + 1) := by omega
    have e3 : (128 + (((by' s i - 224) * 4096 + (by' s (i + 1) - 128) * 64 + by' s (i + 2) - 128 : Nat) : Int) % 64).toNat = by' s (i + 2) := by omega
    rw [e1, e2, e3]
    rfl
  · have q1 := g1.2
    have q2 := g2.2
    have q3 := g3.2
    rw [h, hr, enc_four (by omega) (by omega)]
    unfold v4
    have e1 : (240 + (((by' s i - 240) * 262144 + (by' s (i + 1) - 128) * 4096 + (by' s (i + 2) - 128) * 64 + by' s (i + 3) - 128 : Nat) : Int) / 262144).toNat = by' s i := by omega
    have e2 : (128 + (((by' s i - 240) * 262144 + (by' s (i + 1) - 128) * 4096 + (by' s (i + 2) - 128) * 64 + by' s (i + 3) - 128 : Nat) : Int) / 4096 % 64).toNat = by' s (i + 1) := by omega
    have e3 : (128 + (((by' s i - 240) * 262144 + (by' s (i + 1) - 128) * 4096 + (by' s (i + 2) - 128) * 64 + by' s (i + 3) - 128 : Nat) : Int) / 64 % 64).toNat = by' s (i + 2) := by omega
    have e4 : (128 + (((by' s i - 240) * 262144 + (by' s (i + 1) - 128) * 4096 + (by' s (i + 2) - 128) * 64 + by' s (i + 3) - 128 : Nat) : Int) % 64).toNat = by' s (i + 3) := by omega
    rw [e1, e2, e3, e4]
    rfl
  · rw [h'] at hl
    cases hl
theorem ofNat_toNat {n : Nat} (h : n < 256) : (UInt8.ofNat n).toNat = n := by
  rw [UInt8.toNat_ofNat']
  omega
theorem at_of {s : ByteArray} {l : List UInt8} (h : s.data.toList = l) {i : Nat} {c : UInt8} (hc : l[i]? = some c) : i < s.size ∧ by' s i = c.toNat := by
  rw [← h] at hc
  exact by_list s hc
/-- A rune's bytes read as that rune. -/
theorem dec_enc (r : Int) (h0 : 0 ≤ r) (h1 : r ≤ 1114111) (h2 : ¬ (55296 ≤ r ∧ r ≤ 57343)) (s : ByteArray) (rest : List UInt8) (h : s.data.toList = Lib.encodeRune r ++ rest) :
    rn s 0 = r ∧ wd s 0 = (Lib.encodeRune r).length ∧ lo s 0 = false := by
  unfold rn wd lo
  rw [decode_eq]
  unfold decT decM
  obtain ⟨n, rfl⟩ := Int.eq_ofNat_of_zero_le h0
  rcases (show n ≤ 127 ∨ (128 ≤ n ∧ n ≤ 2047) ∨ (2048 ≤ n ∧ n ≤ 65535) ∨ 65536 ≤ n by omega) with c | c | c | c
  · rw [enc_one (by omega) (by omega)] at h ⊢
    have p0 := (at_of h (i := 0) rfl).2
    rw [Int.toNat_natCast, ofNat_toNat (by omega)] at p0
    rw [p0, if_pos (by omega)]
    refine ⟨rfl, rfl, decide_eq_false (fun h => by simp only at h; omega)⟩
  · rw [enc_two (by omega) (by omega)] at h ⊢
    have p0 := (at_of h (i := 0) rfl).2
    have p1 := (at_of h (i := 1) rfl)
    rw [show (192 + (n : Int) / 64).toNat = 192 + n / 64 by omega, ofNat_toNat (by omega)] at p0
    rw [show (128 + (n : Int) % 64).toNat = 128 + n % 64 by omega, ofNat_toNat (by omega)] at p1
    have g1 : go s (0 + 1) := ⟨p1.1, by rw [p1.2]; omega, by rw [p1.2]; omega⟩
    rw [p0, if_neg (by omega), if_pos ⟨by omega, by omega, decide_eq_true g1⟩, p1.2]
    refine ⟨?_, rfl, decide_eq_false (fun h => by simp only at h; omega)⟩
    simp only
    omega
  · rw [enc_three (by omega)] at h ⊢
    have p0 := (at_of h (i := 0) rfl).2
    have p1 := (at_of h (i := 1) rfl)
    have p2 := (at_of h (i := 2) rfl)
    rw [show (224 + (n : Int) / 4096).toNat = 224 + n / 4096 by omega, ofNat_toNat (by omega)] at p0
    rw [show (128 + (n : Int) / 64 % 64).toNat = 128 + n / 64 % 64 by omega, ofNat_toNat (by omega)] at p1
    rw [show (128 + (n : Int) % 64).toNat = 128 + n % 64 by omega, ofNat_toNat (by omega)] at p2
    have g1 : go s (0 + 1) := ⟨p1.1, by rw [p1.2]; omega, by rw [p1.2]; omega⟩
    have g2 : go s (0 + 2) := ⟨p2.1, by rw [p2.2]; omega, by rw [p2.2]; omega⟩
    have hv : v3 (224 + n / 4096) (128 + n / 64 % 64) (128 + n % 64) = n := by unfold v3; omega
    rw [p0, p1.2, p2.2, if_neg (by omega), if_neg (fun h => by have := h.2.1; omega), hv, if_pos ⟨by omega, by omega, decide_eq_true g1, decide_eq_true g2, by omega, by omega⟩]
    refine ⟨rfl, rfl, decide_eq_false (fun h => by simp only at h; omega)⟩
  · rw [enc_four (by omega) (by omega)] at h ⊢
    have p0 := (at_of h (i := 0) rfl).2
    have p1 := (at_of h (i := 1) rfl)
    have p2 := (at_of h (i := 2) rfl)
    have p3 := (at_of h (i := 3) rfl)
    rw [show (240 + (n : Int) / 262144).toNat = 240 + n / 262144 by omega, ofNat_toNat (by omega)] at p0
    rw [show (128 + (n : Int) / 4096 % 64).toNat = 128 + n / 4096 % 64 by omega, ofNat_toNat (by omega)] at p1
    rw [show (128 + (n : Int) / 64 % 64).toNat = 128 + n / 64 % 64 by omega, ofNat_toNat (by omega)] at p2
    rw [show (128 + (n : Int) % 64).toNat = 128 + n % 64 by omega, ofNat_toNat (by omega)] at p3
    have g1 : go s (0 + 1) := ⟨p1.1, by rw [p1.2]; omega, by rw [p1.2]; omega⟩
    have g2 : go s (0 + 2) := ⟨p2.1, by rw [p2.2]; omega, by rw [p2.2]; omega⟩
    have g3 : go s (0 + 3) := ⟨p3.1, by rw [p3.2]; omega, by rw [p3.2]; omega⟩
    have hv : v4 (240 + n / 262144) (128 + n / 4096 % 64) (128 + n / 64 % 64) (128 + n % 64) = n := by unfold v4; omega
    rw [p0, p1.2, p2.2, p3.2, if_neg (by omega), if_neg (fun h => by have := h.2.1; omega), if_neg (fun h => by have := h.2.1; omega), hv, if_pos ⟨by omega, by omega, decide_eq_true g1, decide_eq_true g2, decide_eq_true g3, by omega, by omega⟩]
    refine ⟨rfl, rfl, decide_eq_false (fun h => by simp only at h; omega)⟩
/-- Signs are told apart. -/
theorem ros_nodup : ∀ (l acc : List Int), acc.Nodup → (ros l acc).1.Nodup
  | [], acc, h => h
  | r :: l, acc, h => by
    unfold ros
    by_cases hc : cls r ≠ 4
    · rw [if_pos hc]; exact List.nodup_nil
    rw [if_neg hc]
    by_cases hm : r ∈ acc
    · rw [if_pos hm]; exact List.nodup_nil
    rw [if_neg hm]
    by_cases hl : 100 ≤ acc.length
    · rw [if_pos hl]; exact List.nodup_nil
    rw [if_neg hl]
    refine ros_nodup l _ ?_
    rw [List.nodup_append]
    refine ⟨h, by simp, fun a ha b hb => ?_⟩
    simp at hb
    subst hb
    exact fun e => hm (e ▸ ha)
theorem rosS_nodup (s : ByteArray) : (rosS s).1.Nodup := by
  unfold rosS
  split
  · exact List.nodup_nil
  split
  · exact List.nodup_nil
  exact ros_nodup _ _ List.nodup_nil
theorem fnd_at : ∀ (l : List Int) (o : Nat) (i : Int), l.Nodup → o < l.length → fnd l (l.getD o 0) i = i + o
  | a :: l, 0, i, _, _ => by simp [fnd]
  | a :: l, o + 1, i, hn, ho => by
    have hn' := List.nodup_cons.1 hn
    have hlt : o < l.length := by simpa using ho
    have e : (a :: l).getD (o + 1) 0 = l.getD o 0 := by simp
    rw [e]
    unfold fnd
    have hm : l.getD o 0 ∈ l := by
      rw [List.getD_eq_getElem?_getD, List.getElem?_eq_getElem hlt]
      exact List.getElem_mem hlt
    have hne : ¬ a = l.getD o 0 := fun h => hn'.1 (by rw [h]; exact hm)
    rw [if_neg hne, fnd_at l o (i + 1) hn'.2 hlt]
    omega
theorem fnd_get : ∀ (l : List Int) (r i : Int), r ∈ l → l.getD (fnd l r i - i).toNat 0 = r ∧ i ≤ fnd l r i
  | [], r, i, h => by simp at h
  | a :: l, r, i, h => by
    unfold fnd
    by_cases e : a = r
    · rw [if_pos e]
      simp [e]
    · rw [if_neg e]
      have := fnd_get l r (i + 1) (by simpa [Ne.symm e] using h)
      refine ⟨?_, by omega⟩
      rw [show (fnd l r (i + 1) - i).toNat = (fnd l r (i + 1) - (i + 1)).toNat + 1 by omega]
      simpa using this.1
theorem fnd_lt' : ∀ (l : List Int) (r i : Int), r ∈ l → fnd l r i < i + l.length
  | [], r, i, h => by simp at h
  | a :: l, r, i, h => by
    unfold fnd
    by_cases e : a = r
    · rw [if_pos e]
      simp
      omega
    · rw [if_neg e]
      have := fnd_lt' l r (i + 1) (by simpa [Ne.symm e] using h)
      simp
      omega
end Go.Ear
