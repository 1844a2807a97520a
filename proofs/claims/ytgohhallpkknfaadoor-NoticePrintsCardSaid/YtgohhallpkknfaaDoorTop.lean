/- Signs and numbers as texts: the reference's. -/
import Derived.Test.YtgohhallpkknfaaDoorTnp
namespace Go.Proofs.YtgohhallpkknfaaDoor
open Go.RowKit Go.Ear Go.Proofs.YtgohhallpkknfaaDoorW.PrintWords Go.Proofs.YtgohhallpkknfaaDoor.PNoticePrints
set_option linter.unusedSimpArgs false
set_option linter.unusedVariables false
set_option maxRecDepth 100000
theorem vldR_eq (n o t k : Int) : earshotref5_Valid.f n o t k = some (vld n o t k) := by
  rw [← vld_eq]
  unfold notice_Valid.f notice_isTag.f notice_isKind.f earshotref5_Valid.f
  by_cases h5 : t ≥ 0 <;> by_cases h6 : t ≤ 1048576 <;> by_cases h7 : k = 1 <;> simp [h5, h6, h7]
theorem put_eq (r : Int) (h : 0 ≤ r) (h' : r ≤ 1114111) (hs : ¬ (55296 ≤ r ∧ r ≤ 57343)) : earshotref1_Put.f [] r = some (Lib.encodeRuneZ r) := by
  unfold earshotref1_Put.f
  have t64 : Int.tdiv r 64 = r / 64 := Int.tdiv_eq_ediv_of_nonneg h
  have t4096 : Int.tdiv r 4096 = r / 4096 := Int.tdiv_eq_ediv_of_nonneg h
  have t26 : Int.tdiv r 262144 = r / 262144 := Int.tdiv_eq_ediv_of_nonneg h
  have m64 : Int.tmod r 64 = r % 64 := Int.tmod_eq_emod_of_nonneg h
  have w1 : wrap64 (r / 64) = r / 64 := wid (by omega) (by omega)
  have w2 : wrap64 (r / 4096) = r / 4096 := wid (by omega) (by omega)
  have w3 : wrap64 (r / 262144) = r / 262144 := wid (by omega) (by omega)
  have m1 : Int.tmod (r / 64) 64 = r / 64 % 64 := Int.tmod_eq_emod_of_nonneg (by omega)
  have m2 : Int.tmod (r / 4096) 64 = r / 4096 % 64 := Int.tmod_eq_emod_of_nonneg (by omega)
  simp only [t64, t4096, t26, m64, w1, w2, w3, m1, m2, Option.bind_some, List.nil_append, List.length_cons, List.length_nil]
  by_cases h1 : r < 128
  · rw [if_pos h1, if_pos (by omega), Lib.encodeRuneZ_one h (by omega)]
    congr 2
    omega
  rw [if_neg h1]
  by_cases h2 : r < 2048
  · rw [if_pos h2, if_pos (by omega), Lib.encodeRuneZ_two (by omega) (by omega)]
    rw [wid (x := 192 + r / 64) (by omega) (by omega), wid (x := 128 + r % 64) (by omega) (by omega), show (192 + r / 64) % 256 = 192 + r / 64 by omega, show (128 + r % 64) % 256 = 128 + r % 64 by omega]
  rw [if_neg h2]
  by_cases h3 : r < 65536
  · rw [if_pos h3, if_pos (by omega), Lib.encodeRuneZ_three (by omega)]
    rw [wid (x := 224 + r / 4096) (by omega) (by omega), wid (x := 128 + r / 64 % 64) (by omega) (by omega), wid (x := 128 + r % 64) (by omega) (by omega), show (224 + r / 4096) % 256 = 224 + r / 4096 by omega, show (128 + r / 64 % 64) % 256 = 128 + r / 64 % 64 by omega, show (128 + r % 64) % 256 = 128 + r % 64 by omega]
  rw [if_neg h3, if_pos (by omega), Lib.encodeRuneZ_four (by omega) (by omega)]
  rw [wid (x := 240 + r / 262144) (by omega) (by omega), wid (x := 128 + r / 4096 % 64) (by omega) (by omega), wid (x := 128 + r / 64 % 64) (by omega) (by omega), wid (x := 128 + r % 64) (by omega) (by omega), show (240 + r / 262144) % 256 = 240 + r / 262144 by omega, show (128 + r / 4096 % 64) % 256 = 128 + r / 4096 % 64 by omega, show (128 + r / 64 % 64) % 256 = 128 + r / 64 % 64 by omega, show (128 + r % 64) % 256 = 128 + r % 64 by omega]
theorem sign_eq (l : List Int) (o : Nat) (h : o < l.length) (hl : ∀ r ∈ l, cls r = 4) : earshotref4_Sign.f l (o : Int) = some ⟨(Lib.encodeRune (l.getD o 0)).toArray⟩ := by
  unfold earshotref4_Sign.f
  have e : rd l (o : Int) = l.getD o 0 := by simp [rd]
  have hc := cls_valid (hl (l.getD o 0) (by rw [List.getD_eq_getElem?_getD]; simp [h]))
  rw [if_pos (by omega), if_pos (by omega), e, put_eq _ hc.1 hc.2.1 hc.2.2, Option.bind_some, strNums_enc]
def dz (u : Nat) : List Int := (Lib.decDigits u).map fun x => (x.toNat : Int)
theorem byte_digit (u : Nat) (h : u < 10) : ((UInt8.ofNat (48 + u)).toNat : Int) = 48 + (u : Int) := by
  have : (UInt8.ofNat (48 + u)).toNat = 48 + u := by
    rw [UInt8.toNat_ofNat']
    omega
  rw [this]
  omega
theorem dz_one (u : Nat) (h : u < 10) : dz u = [48 + (u : Int)] := by
  unfold dz Lib.decDigits
  rw [dif_pos h]
  simp only [List.map_cons, List.map_nil, byte_digit u h]
theorem dz_more (u : Nat) (h : ¬ u < 10) : dz u = dz (u / 10) ++ [48 + ((u % 10 : Nat) : Int)] := by
  conv => lhs; unfold dz Lib.decDigits
  rw [dif_neg h]
  simp only [List.map_append, List.map_cons, List.map_nil, byte_digit (u % 10) (Nat.mod_lt _ (by omega))]
  rfl
theorem dig_step (u k : Nat) (acc : List Int) (h : 1 ≤ u) (hb : u ≤ 1000000000) (ha : acc.length < 100000) :
    earshotref2_Digits.l0 (k + 1) (u : Int) acc = earshotref2_Digits.l0 k ((u / 10 : Nat) : Int) ([48 + ((u % 10 : Nat) : Int)] ++ acc) := by
  have p1 : (u : Int) > 0 := by omega
  have t1 : Int.tdiv (u : Int) 10 = ((u / 10 : Nat) : Int) := by
    rw [Int.tdiv_eq_ediv_of_nonneg (by omega)]
    omega
  have t2 : Int.tmod (u : Int) 10 = ((u % 10 : Nat) : Int) := by
    rw [Int.tmod_eq_emod_of_nonneg (by omega)]
    omega
  have hm : u % 10 < 10 := Nat.mod_lt _ (by omega)
  have p2 : ([48 + ((u % 10 : Nat) : Int)] : List Int).length + acc.length < 140737488355328 := by
    rw [List.length_singleton]
    omega
  generalize u % 10 = m at *
  have e1 : wrap64 (48 + (m : Int)) % 256 = 48 + (m : Int) := by
    rw [wid (by omega) (by omega)]
    omega
  have e2 : wrap64 ((u / 10 : Nat) : Int) = ((u / 10 : Nat) : Int) := wid (by omega) (by omega)
  rw [earshotref2_Digits.l0, if_pos p1, t1, t2, e1, e2, Option.bind_some, if_pos p2]
theorem dig_end (k : Nat) (acc : List Int) : earshotref2_Digits.l0 (k + 1) ((0 : Nat) : Int) acc = some (strOfNums acc) := by
  rw [earshotref2_Digits.l0, if_neg (by omega)]
theorem digs (d : Nat) : ∀ (u k : Nat) (acc : List Int), 1 ≤ u → u < 10 ^ d → d < k → acc.length + d < 100000 → u ≤ 1000000000 → earshotref2_Digits.l0 k (u : Int) acc = some (strOfNums (dz u ++ acc)) := by
  induction d with
  | zero =>
    intro u k acc h hu
    simp at hu
    omega
  | succ d ih =>
    intro u k acc h hu hk ha hb
    obtain ⟨k, rfl⟩ : ∃ m, k = m + 1 := ⟨k - 1, by omega⟩
    rw [dig_step u k acc h hb (by omega)]
    by_cases h10 : u < 10
    · have hz : u / 10 = 0 := by omega
      obtain ⟨k, rfl⟩ : ∃ m, k = m + 1 := ⟨k - 1, by omega⟩
      rw [hz, dz_one u h10, show u % 10 = u by omega]
      exact dig_end k _
    · have hp : u / 10 < 10 ^ d := by
        rw [Nat.pow_succ] at hu
        exact Nat.div_lt_of_lt_mul (by omega)
      rw [ih (u / 10) k _ (by omega) hp (by omega) (by rw [List.length_append, List.length_singleton]; omega) (by omega), dz_more u h10, List.append_assoc]
theorem digits_eq (u : Nat) (hu : u ≤ 1000000000) : earshotref2_Digits.f 100 (u : Int) = some ⟨(Lib.decDigits u).toArray⟩ := by
  unfold earshotref2_Digits.f
  by_cases h : u = 0
  · subst h
    rw [if_pos (by simp)]
    unfold Lib.decDigits
    simp
  · rw [if_neg (by omega), digs 50 u 100 [] (by omega) (Nat.lt_of_le_of_lt hu (by decide)) (by omega) (by simp) hu, List.append_nil]
    exact congrArg some (strNums_bytes _)
end Go.Proofs.YtgohhallpkknfaaDoor
