/- What the printed functions of the reference (and of glyph) answer, told by the plain words of Tx. -/
import Derived.Test.YtgohhallpkknfaaDoorQr1
import Derived.Test.YtgohhallpkknfaaDoorQr2
import Derived.Test.YtgohhallpkknfaaDoorQr3
import Derived.Test.YtgohhallpkknfaaDoorQr4
import Derived.Test.YtgohhallpkknfaaDoorTx
namespace Go.Proofs.YtgohhallpkknfaaDoor
open Go.RowKit Go.Ear Go.Proofs.YtgohhallpkknfaaDoorW.PrintWords Go.Proofs.YtgohhallpkknfaaDoor.PNoticeReads
set_option linter.unusedSimpArgs false
set_option linter.unusedVariables false
set_option maxRecDepth 100000
theorem bt_by (s : ByteArray) {i : Nat} (h : i < s.size) : bt s (i : Int) = (by' s i : Int) := by
  have e : s.get! i = s[i] := by
    rw [ByteArray.get!]
    simp [h]
    rfl
  simp only [bt, Int.toNat_natCast, h, dif_pos]
  unfold by'
  rw [e]
theorem wrap_add {i k : Nat} (h : i ≤ 4611686018427387904) (hk : k < 100) : wrap64 ((i : Int) + (k : Int)) = ((i + k : Nat) : Int) := by
  unfold wrap64
  omega
theorem wid {x : Int} (h : -1000000000000000 ≤ x) (h' : x ≤ 1000000000000000) : wrap64 x = x := by
  unfold wrap64
  omega
theorem more_eq (s : ByteArray) (i : Nat) : earshotref1_more.f s (i : Int) = some (decide (go s i)) := by
  unfold earshotref1_more.f
  by_cases h : i < s.size
  · rw [if_pos (by omega), if_pos (by omega), bt_by s h]
    by_cases h2 : 128 ≤ by' s i
    · rw [if_pos (by omega)]
      by_cases h3 : by' s i ≤ 191
      · have : go s i := ⟨h, h2, h3⟩
        simp [this]
        omega
      · have : ¬ go s i := fun g => h3 g.2.2
        simp [this]
        omega
    · have : ¬ go s i := fun g => h2 g.2.1
      rw [if_neg (by omega)]
      simp [this]
  · have : ¬ go s i := fun g => h g.1
    rw [if_neg (by omega)]
    simp [this]
theorem at_eq (k : Nat) (s : ByteArray) (i : Nat) (hi : i < s.size) (hs : s.size ≤ 1000000000000000) : earshotref1_At.f (k + 4) s (i : Int) = some (rn s i, (wd s i : Int), lo s i) := by
  have b0 := by_lt s i
  have b1 := by_lt s (i + 1)
  have b2 := by_lt s (i + 2)
  have b3 := by_lt s (i + 3)
  have w1 : wrap64 ((i : Int) + 1) = ((i + 1 : Nat) : Int) := wrap_add (k := 1) (by omega) (by omega)
  have w2 : wrap64 ((i : Int) + 2) = ((i + 2 : Nat) : Int) := wrap_add (k := 2) (by omega) (by omega)
  have w3 : wrap64 ((i : Int) + 3) = ((i + 3 : Nat) : Int) := wrap_add (k := 3) (by omega) (by omega)
  have z0 : wrap64 (by' s i : Int) = by' s i := wid (by omega) (by omega)
  have m1 := more_eq s (i + 1)
  have m2 := more_eq s (i + 2)
  have m3 := more_eq s (i + 3)
  unfold rn wd lo
  rw [decode_eq]
  unfold decT
  generalize hg1 : decide (go s (i + 1)) = g1 at *
  generalize hg2 : decide (go s (i + 2)) = g2 at *
  generalize hg3 : decide (go s (i + 3)) = g3 at *
  have t1 : g1 = true → i + 1 < s.size ∧ bt s ((i + 1 : Nat) : Int) = (by' s (i + 1) : Int) ∧ 128 ≤ by' s (i + 1) ∧ by' s (i + 1) ≤ 191 := fun h => by
    rw [← hg1] at h
    have := of_decide_eq_true h
    exact ⟨this.1, bt_by s this.1, this.2⟩
  have t2 : g2 = true → i + 2 < s.size ∧ bt s ((i + 2 : Nat) : Int) = (by' s (i + 2) : Int) ∧ 128 ≤ by' s (i + 2) ∧ by' s (i + 2) ≤ 191 := fun h => by
    rw [← hg2] at h
    have := of_decide_eq_true h
    exact ⟨this.1, bt_by s this.1, this.2⟩
  have t3 : g3 = true → i + 3 < s.size ∧ bt s ((i + 3 : Nat) : Int) = (by' s (i + 3) : Int) ∧ 128 ≤ by' s (i + 3) ∧ by' s (i + 3) ≤ 191 := fun h => by
    rw [← hg3] at h
    have := of_decide_eq_true h
    exact ⟨this.1, bt_by s this.1, this.2⟩
  have e0 := bt_by s hi
  have p1 : (0 : Int) ≤ ((i + 1 : Nat) : Int) := by omega
  have p2 : (0 : Int) ≤ ((i + 2 : Nat) : Int) := by omega
  have p3 : (0 : Int) ≤ ((i + 3 : Nat) : Int) := by omega
  unfold earshotref1_At.f
  rw [if_pos (by omega), if_pos (by omega), e0, z0]
  clear hg1 hg2 hg3
  generalize by' s i = x0 at *
  generalize by' s (i + 1) = x1 at *
  generalize by' s (i + 2) = x2 at *
  generalize by' s (i + 3) = x3 at *
  -- the four ways
  have last : earshotref1_At.j3 (k + 1) s (i : Int) (x0 : Int) false = some (65533, 1, true) := by simp [earshotref1_At.j3]
  unfold decM
  by_cases a0 : x0 < 128
  · rw [if_pos (by omega), if_pos a0]
    simp
    omega
  rw [if_neg (by omega), if_neg a0]
  have j2no : ¬ ((x0 : Int) ≥ 240) → earshotref1_At.j2 (k + 2) s (i : Int) (x0 : Int) = some (65533, 1, true) := fun h => by
    simp only [earshotref1_At.j2, h, if_false, last]
  have j1no : ¬ ((x0 : Int) ≥ 240) → earshotref1_At.j1 (k + 3) s (i : Int) (x0 : Int) false = some (65533, 1, true) := fun h => by
    simp only [earshotref1_At.j1, Bool.false_eq_true, if_false, j2no h]
  by_cases aA : 194 ≤ x0 ∧ x0 ≤ 223
  · rw [if_pos (show (x0 : Int) ≥ 194 by omega), if_pos (show (x0 : Int) ≤ 223 by omega), w1, m1]
    simp only [Option.bind_some]
    cases g1 with
    | true =>
      obtain ⟨q1, q2, q3, q4⟩ := t1 rfl
      rw [if_pos ⟨aA.1, aA.2, rfl⟩]
      simp only [earshotref1_At.j0, if_true, w1, p1, q2]
      rw [if_pos (by omega)]
      have e : wrap64 (wrap64 (wrap64 (wrap64 ((x0 : Int) - 192) * 64) + wrap64 (x1 : Int)) - 128) = (((x0 - 192) * 64 + x1 - 128 : Nat) : Int) := by
        rw [wid (x := (x0 : Int) - 192) (by omega) (by omega), wid (x := ((x0 : Int) - 192) * 64) (by omega) (by omega), wid (x := (x1 : Int)) (by omega) (by omega), wid (x := ((x0 : Int) - 192) * 64 + (x1 : Int)) (by omega) (by omega), wid (by omega) (by omega)]
        omega
      rw [e]
      simp
    | false =>
      have n1 : ¬ (x0 : Int) ≥ 224 := by omega
      have h1 : ¬ 224 ≤ x0 := by omega
      have h2 : ¬ 240 ≤ x0 := by omega
      simp only [earshotref1_At.j0, Bool.false_eq_true, if_false, n1, j1no (by omega), h1, h2, and_false, false_and]
      simp
  have hA : ¬ (194 ≤ x0 ∧ x0 ≤ 223 ∧ g1 = true) := fun h => aA ⟨h.1, h.2.1⟩
  rw [if_neg hA]
  have toj0 : (if (x0 : Int) ≥ 194 then (if (x0 : Int) ≤ 223 then ((earshotref1_more.f s (wrap64 ((i : Int) + 1))).bind fun t105 => (earshotref1_At.j0 (k + 4) s (i : Int) (x0 : Int) t105)) else (earshotref1_At.j0 (k + 4) s (i : Int) (x0 : Int) false)) else (earshotref1_At.j0 (k + 4) s (i : Int) (x0 : Int) false)) = earshotref1_At.j0 (k + 4) s (i : Int) (x0 : Int) false := by
    by_cases h : 194 ≤ x0
    · rw [if_pos (by omega), if_neg (by omega)]
    · rw [if_neg (by omega)]
  refine toj0.trans ?_
  clear toj0 hA
  by_cases aC : 224 ≤ x0 ∧ x0 ≤ 239
  · have h1 : (x0 : Int) ≥ 224 := by omega
    have h2 : (x0 : Int) ≤ 239 := by omega
    have h4 : ¬ 240 ≤ x0 := by omega
    simp only [earshotref1_At.j0, Bool.false_eq_true, if_false, h1, h2, if_true, w1, w2, m1, m2, Option.bind_some, aC.1, aC.2, h4, true_and, false_and]
    cases g1 with
    | false => simp [j1no (show ¬ ((x0 : Int) ≥ 240) by omega)]
    | true =>
      obtain ⟨q1, q2, q3, q4⟩ := t1 rfl
      cases g2 with
      | false => simp [j1no (show ¬ ((x0 : Int) ≥ 240) by omega)]
      | true =>
        obtain ⟨r1, r2, r3, r4⟩ := t2 rfl
        have e : wrap64 (wrap64 (wrap64 (wrap64 (wrap64 ((x0 : Int) - 224) * 4096) + wrap64 (wrap64 (wrap64 (x1 : Int) - 128) * 64)) + wrap64 (x2 : Int)) - 128) = ((v3 x0 x1 x2 : Nat) : Int) := by
          rw [wid (x := (x0 : Int) - 224) (by omega) (by omega), wid (x := ((x0 : Int) - 224) * 4096) (by omega) (by omega), wid (x := (x1 : Int)) (by omega) (by omega), wid (x := (x1 : Int) - 128) (by omega) (by omega), wid (x := ((x1 : Int) - 128) * 64) (by omega) (by omega), wid (x := (x2 : Int)) (by omega) (by omega),
            wid (x := ((x0 : Int) - 224) * 4096 + ((x1 : Int) - 128) * 64) (by omega) (by omega), wid (x := ((x0 : Int) - 224) * 4096 + ((x1 : Int) - 128) * 64 + (x2 : Int)) (by omega) (by omega), wid (by omega) (by omega)]
          unfold v3
          omega
        simp only [earshotref1_At.j1, if_true, w1, w2, p1, p2, q2, r2, e, show ((i + 1 : Nat) : Int) < (s.size : Int) from by omega, show ((i + 2 : Nat) : Int) < (s.size : Int) from by omega, j2no (show ¬ ((x0 : Int) ≥ 240) by omega), true_and]
        have hm : v3 x0 x1 x2 ≤ 65535 := by unfold v3; omega
        generalize v3 x0 x1 x2 = c at *
        clear q1 q2 r1 r2 e t1 t2 t3
        by_cases c1 : 2048 ≤ c
        · have d1 : (c : Int) ≥ 2048 := by omega
          by_cases c2 : c < 55296
          · have d2 : (c : Int) < 55296 := by omega
            simp only [d1, d2, c1, c2, if_true, true_or, and_self]
            simp
          · have d2 : ¬ (c : Int) < 55296 := by omega
            by_cases c3 : 57343 < c
            · have d3 : (c : Int) > 57343 := by omega
              simp only [d1, d2, d3, c1, c2, c3, if_true, if_false, or_true, and_self]
              simp
            · have d3 : ¬ (c : Int) > 57343 := by omega
              simp only [d1, d2, d3, c1, c2, c3, if_true, if_false, or_self, and_false]
              rfl
        · have d1 : ¬ (c : Int) ≥ 2048 := by omega
          simp only [d1, c1, if_false, false_and]
          rfl
  have hC : ¬ (224 ≤ x0 ∧ x0 ≤ 239 ∧ g1 = true ∧ g2 = true ∧ 2048 ≤ v3 x0 x1 x2 ∧ (v3 x0 x1 x2 < 55296 ∨ 57343 < v3 x0 x1 x2)) := fun h => aC ⟨h.1, h.2.1⟩
  rw [if_neg hC]
  have toj2 : earshotref1_At.j0 (k + 4) s (i : Int) (x0 : Int) false = earshotref1_At.j2 (k + 2) s (i : Int) (x0 : Int) := by
    simp only [earshotref1_At.j0, earshotref1_At.j1, Bool.false_eq_true, if_false]
    by_cases h : 224 ≤ x0
    · rw [if_pos (by omega), if_neg (by omega)]
    · rw [if_neg (by omega)]
  rw [toj2]
  by_cases aD : 240 ≤ x0 ∧ x0 ≤ 244
  · have h1 : (x0 : Int) ≥ 240 := by omega
    have h2 : (x0 : Int) ≤ 244 := by omega
    simp only [earshotref1_At.j2, h1, h2, if_true, w1, w2, w3, m1, m2, m3, Option.bind_some, aD.1, aD.2, true_and]
    cases g1 with
    | false => simp [last]
    | true =>
      obtain ⟨q1, q2, q3, q4⟩ := t1 rfl
      cases g2 with
      | false => simp [last]
      | true =>
        obtain ⟨r1, r2, r3, r4⟩ := t2 rfl
        cases g3 with
        | false => simp [last]
        | true =>
          obtain ⟨u1, u2, u3, u4⟩ := t3 rfl
          have e : wrap64 (wrap64 (wrap64 (wrap64 (wrap64 (wrap64 ((x0 : Int) - 240) * 262144) + wrap64 (wrap64 (wrap64 (x1 : Int) - 128) * 4096)) + wrap64 (wrap64 (wrap64 (x2 : Int) - 128) * 64)) + wrap64 (x3 : Int)) - 128) = ((v4 x0 x1 x2 x3 : Nat) : Int) := by
            rw [wid (x := (x0 : Int) - 240) (by omega) (by omega), wid (x := ((x0 : Int) - 240) * 262144) (by omega) (by omega), wid (x := (x1 : Int)) (by omega) (by omega), wid (x := (x1 : Int) - 128) (by omega) (by omega), wid (x := ((x1 : Int) - 128) * 4096) (by omega) (by omega), wid (x := (x2 : Int)) (by omega) (by omega),
              wid (x := (x2 : Int) - 128) (by omega) (by omega), wid (x := ((x2 : Int) - 128) * 64) (by omega) (by omega), wid (x := (x3 : Int)) (by omega) (by omega), wid (x := ((x0 : Int) - 240) * 262144 + ((x1 : Int) - 128) * 4096) (by omega) (by omega),
              wid (x := ((x0 : Int) - 240) * 262144 + ((x1 : Int) - 128) * 4096 + ((x2 : Int) - 128) * 64) (by omega) (by omega), wid (x := ((x0 : Int) - 240) * 262144 + ((x1 : Int) - 128) * 4096 + ((x2 : Int) - 128) * 64 + (x3 : Int)) (by omega) (by omega), wid (by omega) (by omega)]
            unfold v4
            omega
          simp only [earshotref1_At.j3, if_true, w1, w2, w3, p1, p2, p3, q2, r2, u2, e, show ((i + 1 : Nat) : Int) < (s.size : Int) from by omega, show ((i + 2 : Nat) : Int) < (s.size : Int) from by omega, show ((i + 3 : Nat) : Int) < (s.size : Int) from by omega, true_and]
          generalize v4 x0 x1 x2 x3 = c at *
          clear q1 q2 r1 r2 u1 u2 e t1 t2 t3
          by_cases c1 : 65536 ≤ c
          · have d1 : (c : Int) ≥ 65536 := by omega
            by_cases c2 : c ≤ 1114111
            · have d2 : (c : Int) ≤ 1114111 := by omega
              simp only [d1, d2, c1, c2, if_true, and_self]
              simp
            · have d2 : ¬ (c : Int) ≤ 1114111 := by omega
              simp only [d1, d2, c1, c2, if_true, if_false, and_false]
              rfl
          · have d1 : ¬ (c : Int) ≥ 65536 := by omega
            simp only [d1, c1, if_false, false_and]
            rfl
  · have hD : ¬ (240 ≤ x0 ∧ x0 ≤ 244 ∧ g1 = true ∧ g2 = true ∧ g3 = true ∧ 65536 ≤ v4 x0 x1 x2 x3 ∧ v4 x0 x1 x2 x3 ≤ 1114111) := fun h => aD ⟨h.1, h.2.1⟩
    rw [if_neg hD]
    by_cases h : 240 ≤ x0
    · simp only [earshotref1_At.j2, show (x0 : Int) ≥ 240 from by omega, show ¬ (x0 : Int) ≤ 244 from by omega, if_true, if_false, last]
      simp
    · rw [j2no (by omega)]
      simp
theorem rng {α : Type} (F : Bool → α) (x a b : Int) : (if x ≥ a then F (decide (x ≤ b)) else F false) = F (decide (a ≤ x ∧ x ≤ b)) := by
  by_cases h : a ≤ x <;> simp [h]
theorem rng2 {α : Type} (F : Bool → α) (x a b : Int) : (if x ≥ a then (if x ≤ b then F true else F false) else F false) = F (decide (a ≤ x ∧ x ≤ b)) := by
  by_cases h : a ≤ x <;> by_cases h' : x ≤ b <;> simp [h, h']
theorem isLetter_eq (k : Nat) (r : Int) : glyph_isLetter.f (k + 4) r = some (decide ((65 ≤ r ∧ r ≤ 90) ∨ (97 ≤ r ∧ r ≤ 122) ∨ (¬ (r = 215 ∨ r = 247 ∨ (768 ≤ r ∧ r ≤ 879) ∨ r = 5760) ∧ ((192 ≤ r ∧ r ≤ 8191) ∨ (12353 ≤ r ∧ r ≤ 55203) ∨ (127744 ≤ r ∧ r ≤ 129791))))) := by
  unfold glyph_isLetter.f
  rw [rng (fun b => glyph_isLetter.j0 (k + 4) r b)]
  simp only [glyph_isLetter.j0]
  rw [rng (fun b => glyph_isLetter.j1 (k + 3) r b)]
  simp only [glyph_isLetter.j1]
  rw [rng (fun b => glyph_isLetter.j2 (k + 2) r b)]
  simp only [glyph_isLetter.j2, decide_eq_true_eq]
  by_cases h1 : 65 ≤ r ∧ r ≤ 90
  · simp [h1]
  by_cases h2 : 97 ≤ r ∧ r ≤ 122
  · simp [h1, h2]
  simp only [h1, h2, if_false, false_or]
  repeat' split
  all_goals
    refine congrArg some (Bool.eq_iff_iff.2 ?_)
    simp only [decide_eq_true_eq, Bool.false_eq_true, false_iff, true_iff]
    omega
theorem class_eq (k : Nat) (r : Int) : glyph_Class.f (k + 8) r = some (cls r) := by
  have hL := isLetter_eq (k + 2) r
  have e : glyph_Class.f (k + 8) r = glyph_Class.j0 (k + 8) r (decide (r = 9 ∨ r = 13 ∨ r = 32)) := by
    unfold glyph_Class.f
    by_cases h9 : r = 9
    · simp [h9]
    by_cases h13 : r = 13
    · simp [h13]
    simp only [h9, h13, if_false, false_or]
    congr 1
  rw [e]
  simp only [glyph_Class.j0]
  rw [rng (fun b => glyph_Class.j1 (k + 7) r b)]
  simp only [glyph_Class.j1, hL, Option.bind_some, decide_eq_true_eq]
  unfold cls
  by_cases h1 : r = 9 ∨ r = 13 ∨ r = 32
  · simp [h1]
  by_cases h2 : r = 10
  · simp [h2]
  by_cases h3 : 48 ≤ r ∧ r ≤ 57
  · simp [h1, h2, h3]
  simp only [h1, h2, h3, if_false]
  by_cases h4 : (65 ≤ r ∧ r ≤ 90) ∨ (97 ≤ r ∧ r ≤ 122)
  · rw [if_pos h4, if_pos (by omega)]
  rw [if_neg h4]
  by_cases h5 : 192 ≤ r ∧ r ≤ 8191
  · rw [if_pos h5]
    by_cases h6 : r = 215 ∨ r = 247 ∨ (768 ≤ r ∧ r ≤ 879) ∨ r = 5760
    · rw [if_pos h6, if_neg (by omega), if_pos (by omega), if_neg (by omega)]
    · rw [if_neg h6, if_pos (by omega)]
  rw [if_neg h5]
  by_cases h6 : (12353 ≤ r ∧ r ≤ 55203) ∨ (127744 ≤ r ∧ r ≤ 129791)
  · rw [if_pos h6, if_pos (by omega)]
  rw [if_neg h6, if_neg (by omega)]
  by_cases h7 : 33 ≤ r ∧ r ≤ 126
  · rw [if_pos h7, if_pos (by omega), if_pos (by omega)]
  · rw [if_neg h7]
    split
    · rw [if_neg (by omega)]
    · rfl
theorem classR_eq (k : Nat) (r : Int) : earshotref1_Class.f (k + 8) r = some (cls r) := by
  have e : earshotref1_Class.f (k + 8) r = earshotref1_Class.j0 (k + 8) r (decide (r = 9 ∨ r = 13 ∨ r = 32)) := by
    unfold earshotref1_Class.f
    by_cases h9 : r = 9
    · simp [h9]
    by_cases h13 : r = 13
    · simp [h13]
    simp only [h9, h13, if_false, false_or]
    congr 1
  rw [e]
  simp only [earshotref1_Class.j0]
  rw [rng (fun b => earshotref1_Class.j1 (k + 7) r b)]
  simp only [earshotref1_Class.j1]
  rw [rng (fun b => earshotref1_Class.j2 (k + 6) r b)]
  have e2 : (if r ≥ 65 then (if r ≤ 90 then (earshotref1_Class.j2 (k + 6) r true) else earshotref1_Class.j2 (k + 6) r (decide (97 ≤ r ∧ r ≤ 122))) else earshotref1_Class.j2 (k + 6) r (decide (97 ≤ r ∧ r ≤ 122))) = earshotref1_Class.j2 (k + 6) r (decide ((65 ≤ r ∧ r ≤ 90) ∨ (97 ≤ r ∧ r ≤ 122))) := by
    by_cases h : 65 ≤ r <;> by_cases h' : r ≤ 90 <;> simp [h, h']
  rw [e2]
  simp only [earshotref1_Class.j2]
  rw [rng (fun b => earshotref1_Class.j3 (k + 5) r b)]
  simp only [earshotref1_Class.j3]
  rw [rng (fun b => earshotref1_Class.j4 (k + 4) r b)]
  have e3 : (if r ≥ 12353 then (if r ≤ 55203 then (earshotref1_Class.j4 (k + 4) r true) else earshotref1_Class.j4 (k + 4) r (decide (127744 ≤ r ∧ r ≤ 129791))) else earshotref1_Class.j4 (k + 4) r (decide (127744 ≤ r ∧ r ≤ 129791))) = earshotref1_Class.j4 (k + 4) r (decide ((12353 ≤ r ∧ r ≤ 55203) ∨ (127744 ≤ r ∧ r ≤ 129791))) := by
    by_cases h : 12353 ≤ r <;> by_cases h' : r ≤ 55203 <;> simp [h, h']
  rw [e3]
  simp only [earshotref1_Class.j4, decide_eq_true_eq]
  unfold cls
  by_cases h1 : r = 9 ∨ r = 13 ∨ r = 32
  · simp [h1]
  by_cases h2 : r = 10
  · simp [h2]
  by_cases h3 : 48 ≤ r ∧ r ≤ 57
  · simp [h1, h2, h3]
  simp only [h1, h2, h3, if_false]
  by_cases h4 : (65 ≤ r ∧ r ≤ 90) ∨ (97 ≤ r ∧ r ≤ 122)
  · rw [if_pos h4, if_pos h4]
  rw [if_neg h4, if_neg h4]
  by_cases h5 : 192 ≤ r ∧ r ≤ 8191
  · rw [if_pos h5, if_pos h5]
    by_cases h6 : r = 215 ∨ r = 247 ∨ (768 ≤ r ∧ r ≤ 879) ∨ r = 5760
    · rw [if_pos h6]
      repeat' split
      all_goals (first | rfl | omega)
    · rw [if_neg h6]
      repeat' split
      all_goals (first | rfl | omega)
  rw [if_neg h5, if_neg h5]
  by_cases h6 : (12353 ≤ r ∧ r ≤ 55203) ∨ (127744 ≤ r ∧ r ≤ 129791)
  · rw [if_pos h6, if_pos h6]
  rw [if_neg h6, if_neg h6]
  by_cases h7 : 33 ≤ r ∧ r ≤ 126
  · rw [if_pos h7, if_pos (by omega), if_pos (by omega)]
  · rw [if_neg h7]
    split
    · rw [if_neg (by omega)]
    · rfl
theorem fnd_eq (l : List Int) (x : Int) : ∀ (d k i : Nat), l.length = i + d → d < k → l.length ≤ 1000000000000000 → earshotref4_find.l0 k l x (i : Int) = some (fnd (l.drop i) x i)
  | 0, k, i, h, hk, _ => by
    obtain ⟨k, rfl⟩ : ∃ m, k = m + 1 := ⟨k - 1, by omega⟩
    rw [List.drop_of_length_le (by omega)]
    simp only [earshotref4_find.l0, fnd]
    rw [if_neg (by omega)]
  | d + 1, k, i, h, hk, hl => by
    obtain ⟨k, rfl⟩ : ∃ m, k = m + 1 := ⟨k - 1, by omega⟩
    have hi : i < l.length := by omega
    rw [List.drop_eq_getElem_cons hi]
    have e : rd l (i : Int) = l[i] := by simp [rd, List.getD_eq_getElem?_getD, hi]
    have e2 : wrap64 ((i : Int) + 1) = ((i + 1 : Nat) : Int) := wrap_add (k := 1) (by omega) (by omega)
    simp only [earshotref4_find.l0, fnd]
    rw [if_pos (by omega), if_pos (by omega), e, e2]
    by_cases hx : l[i] = x
    · rw [if_pos hx, if_pos hx]
    · rw [if_neg hx, if_neg hx, fnd_eq l x d k (i + 1) (by omega) (by omega) hl]
      simp
theorem find_eq (l : List Int) (x : Int) (k : Nat) (hk : l.length < k) (hl : l.length ≤ 1000000000000000) : earshotref4_find.f k l x = some (fnd l x 0) := by
  unfold earshotref4_find.f
  have := fnd_eq l x l.length k 0 (by omega) hk hl
  simpa using this
theorem ros_eq (s : ByteArray) (hs : s.size ≤ 65536) : ∀ (d k i : Nat) (acc : List Int), s.size ≤ i + d → 2 * d + 200 < k → acc.length ≤ 100 → (acc = [] → i < s.size) →
    earshotref4_Read.l0 k s acc (i : Int) = some (ros (runes s i) acc)
  | 0, k, i, acc, h, hk, ha, h0 => by
    obtain ⟨k, rfl⟩ : ∃ m, k = m + 1 := ⟨k - 1, by omega⟩
    rw [runes_end (by omega)]
    have : acc ≠ [] := fun e => by have := h0 e; omega
    have : ¬ ((acc.length : Int) = 0) := fun e => this (List.length_eq_zero_iff.1 (by omega))
    simp only [earshotref4_Read.l0, ros]
    rw [if_neg (by omega), if_neg this]
  | d + 1, k, i, acc, h, hk, ha, h0 => by
    obtain ⟨k, rfl⟩ : ∃ m, k = m + 10 := ⟨k - 10, by omega⟩
    by_cases hi : i < s.size
    · have hw := wd_pos s i
      have hwl := wd_le s i hi
      rw [runes_step hi]
      have e1 := at_eq (k + 5) s i hi (by omega)
      have e2 := classR_eq (k + 1) (rn s i)
      have e3 := find_eq acc (rn s i) (k + 8) (by omega) (by omega)
      have e4 : wrap64 ((i : Int) + (wd s i : Int)) = ((i + wd s i : Nat) : Int) := wrap_add (by omega) (by omega)
      simp only [earshotref4_Read.l0]
      rw [if_pos (by omega), e1]
      simp only [Option.bind_some, e2]
      have hj : ∀ b : Bool, earshotref4_Read.j1 (k + 9) s acc (i : Int) (rn s i) (wd s i : Int) b = (if b = true then some ([], (acc.length : Int), 41) else if rn s i ∈ acc then some ([], (acc.length : Int), 42) else if 100 ≤ acc.length then some ([], (acc.length : Int), 2) else some (ros (runes s (i + wd s i)) (acc ++ [rn s i]))) := fun b => by
        simp only [earshotref4_Read.j1, e3, Option.bind_some, e4]
        cases b with
        | true => simp
        | false =>
          simp only [Bool.false_eq_true, if_false]
          have hf := fnd_neg acc (rn s i) 0 (by omega)
          by_cases hm : rn s i ∈ acc
          · rw [if_pos (by have : ¬ fnd acc (rn s i) 0 < 0 := fun h => hf.1 h hm
                           omega), if_pos hm]
          · rw [if_neg (by have := hf.2 hm; omega), if_neg hm]
            by_cases hl : 100 ≤ acc.length
            · rw [if_pos (by omega), if_pos hl]
            · rw [if_neg (by omega), if_neg hl, if_pos (by omega)]
              exact ros_eq s hs d (k + 8) (i + wd s i) (acc ++ [rn s i]) (by omega) (by omega) (by simp; omega) (fun e => by simp at e)
      by_cases hc : cls (rn s i) = 4
      · have hl : lo s i = false := by
          cases h : lo s i with
          | false => rfl
          | true => exact absurd (lo_class s i h) (by omega)
        have hx : (cls (rn s i) != 4) = false := by simpa using hc
        simp only [hl, hx, hj, ros, hc, ne_eq, not_true, Bool.false_eq_true, if_false, bne_self_eq_false]
        by_cases hm : rn s i ∈ acc
        · simp only [hm, if_true]
        · simp only [hm, if_false]
          by_cases hl : 100 ≤ acc.length
          · simp only [hl, if_true]
          · simp only [hl, if_false]
      · have hx : (cls (rn s i) != 4) = true := by simpa using hc
        have hro : ros (rn s i :: runes s (i + wd s i)) acc = ([], (acc.length : Int), 41) := by simp [ros, hc]
        rw [hro]
        cases lo s i <;> simp [hj, hx]
    · rw [runes_end hi]
      have : acc ≠ [] := fun e => hi (h0 e)
      have : ¬ ((acc.length : Int) = 0) := fun e => this (List.length_eq_zero_iff.1 (by omega))
      simp only [earshotref4_Read.l0, ros]
      rw [if_neg (by omega), if_neg this]
theorem readR_eq (s : ByteArray) (k : Nat) (hk : 200000 ≤ k) : earshotref4_Read.f k s = some (rosS s) := by
  unfold earshotref4_Read.f rosS
  by_cases h : 65536 < s.size
  · rw [if_pos (by omega), if_pos h]
  · rw [if_neg (by omega), if_neg h]
    by_cases h0 : s.size = 0
    · rw [if_pos h0]
      obtain ⟨k, rfl⟩ : ∃ m, k = m + 1 := ⟨k - 1, by omega⟩
      simp [earshotref4_Read.l0, h0]
    · rw [if_neg h0]
      exact ros_eq s (by omega) s.size k 0 [] (by omega) (by omega) (by simp) (fun _ => by omega)
end Go.Proofs.YtgohhallpkknfaaDoor
