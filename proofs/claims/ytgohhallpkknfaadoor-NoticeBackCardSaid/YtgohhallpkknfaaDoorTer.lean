/- Notices read: what the printed parts of the reference come to. -/
import Derived.Test.YtgohhallpkknfaaDoorTyr
import Derived.Test.YtgohhallpkknfaaDoorTd
namespace Go.Ear
def vfin (l : List UInt8) (v : Nat) : Int := match dval l v with
  | some x => if x ≤ 1099511627776 then (x : Int) else -1
  | none => -1
def vS (l : List UInt8) : Int := if l = [] then -1 else if l.head? = some 48 ∧ 1 < l.length then -1 else vfin l 0
theorem canon_iff (l : List UInt8) : canon l ↔ ¬ l = [] ∧ ¬ (l.head? = some 48 ∧ 1 < l.length) := by
  unfold canon
  constructor
  · rintro ⟨h1, h2⟩
    refine ⟨h1, fun h => ?_⟩
    rcases h2 with h2 | h2
    · exact h2 h.1
    · omega
  · rintro ⟨h1, h2⟩
    refine ⟨h1, ?_⟩
    by_cases h : l.head? = some 48
    · right
      have : 0 < l.length := List.length_pos_iff.2 h1
      have : ¬ 1 < l.length := fun h' => h2 ⟨h, h'⟩
      omega
    · exact .inl h
theorem vS_some {l : List UInt8} {t : Nat} (h : num l = some t) : vS l = t := by
  have h' := num_some h
  unfold num at h
  split at h
  · rename_i hc
    have := (canon_iff l).1 hc
    unfold vS
    rw [if_neg this.1, if_neg this.2]
    unfold vfin
    rw [h'.2, dval_dec]
    simp only
    rw [if_pos (by omega)]
  · cases h
theorem vS_none {l : List UInt8} (h : num l = none) : vS l < 0 ∨ 1048576 < vS l := by
  unfold num at h
  unfold vS
  by_cases hc : canon l
  · rw [if_pos hc] at h
    have := (canon_iff l).1 hc
    rw [if_neg this.1, if_neg this.2]
    unfold vfin
    cases hd : dval l 0 with
    | none => left; simp
    | some v =>
      rw [hd, Option.bind_some] at h
      split at h
      · cases h
      · simp only
        split
        · right; omega
        · left; simp
  · have := fun h => hc ((canon_iff l).2 h)
    by_cases h1 : l = []
    · rw [if_pos h1]; left; omega
    · rw [if_neg h1]
      by_cases h2 : l.head? = some 48 ∧ 1 < l.length
      · rw [if_pos h2]; left; omega
      · exact absurd ⟨h1, h2⟩ this
end Go.Ear
namespace Go.Proofs.YtgohhallpkknfaaDoor
open Go.RowKit Go.Ear Go.Proofs.YtgohhallpkknfaaDoorW.PrintWords Go.Proofs.YtgohhallpkknfaaDoor.PNoticeReads
set_option linter.unusedSimpArgs false
set_option linter.unusedVariables false
set_option maxRecDepth 100000
theorem bt_list (s : ByteArray) {i : Nat} {c : UInt8} (h : s.data.toList[i]? = some c) : bt s (i : Int) = (c.toNat : Int) := by
  obtain ⟨hi, e⟩ := List.getElem?_eq_some_iff.1 h
  have hi' : i < s.size := by simpa using hi
  simp only [bt, Int.toNat_natCast, hi', dif_pos]
  rw [← e]
  rfl
theorem value_l0 (s : ByteArray) (hs : s.size ≤ 1000000000) : ∀ (d k i v : Nat), s.size = i + d → 2 * d + 10 < k → v ≤ 1099511627776 → earshotref2_value.l0 k s (v : Int) (i : Int) = some (vfin (s.data.toList.drop i) v)
  | 0, k, i, v, h, hk, hv => by
    obtain ⟨k, rfl⟩ : ∃ m, k = m + 1 := ⟨k - 1, by omega⟩
    have n0 : ¬ ((i : Int) < (s.size : Int)) := by omega
    rw [List.drop_of_length_le (by simp; omega), earshotref2_value.l0, if_neg n0]
    unfold vfin
    simp only [dval]
    rw [if_pos hv]
  | d + 1, k, i, v, h, hk, hv => by
    obtain ⟨k, rfl⟩ : ∃ m, k = m + 2 := ⟨k - 2, by omega⟩
    have hi : i < s.size := by omega
    have hil : i < s.data.toList.length := by simpa using hi
    obtain ⟨c, hc⟩ : ∃ c, s.data.toList[i]? = some c := ⟨_, List.getElem?_eq_getElem hil⟩
    have hb := bt_list s hc
    have hdr : s.data.toList.drop i = c :: s.data.toList.drop (i + 1) := by
      rw [List.drop_eq_getElem_cons hil]
      congr 1
      exact (List.getElem?_eq_some_iff.1 hc).2
    have hlt : c.toNat < 256 := UInt8.toNat_lt c
    rw [hdr]
    have p1 : (i : Int) < (s.size : Int) := by omega
    have p2 : (0 : Int) ≤ (i : Int) := by omega
    have bad : vfin (c :: s.data.toList.drop (i + 1)) v = if isDig c then vfin (s.data.toList.drop (i + 1)) (v * 10 + (c.toNat - 48)) else -1 := by
      unfold vfin
      simp only [dval]
      by_cases hd : isDig c
      · rw [if_pos hd, if_pos hd]
      · rw [if_neg hd, if_neg hd]
    rw [bad, earshotref2_value.l0, if_pos p1, if_pos p2, hb]
    by_cases h1 : (c.toNat : Int) < 48
    · have nd : ¬ isDig c := fun h => by unfold isDig at h; omega
      rw [if_pos h1, if_neg nd, earshotref2_value.j2, if_pos rfl]
    · rw [if_neg h1]
      by_cases h2 : (c.toNat : Int) > 57
      · have nd : ¬ isDig c := fun h => by unfold isDig at h; omega
        rw [decide_eq_true h2, if_neg nd, earshotref2_value.j2, if_pos rfl]
      · have yd : isDig c := by unfold isDig; omega
        rw [decide_eq_false h2, if_pos yd, earshotref2_value.j2, if_neg Bool.false_ne_true, if_pos p2, if_pos p1, hb]
        have e1 : wrap64 ((v : Int) * 10) = (v : Int) * 10 := wid (by omega) (by omega)
        have e2 : ((c.toNat : Int) - 48) % 256 = (c.toNat : Int) - 48 := by omega
        have e3 : wrap64 ((v : Int) * 10 + ((c.toNat : Int) - 48)) = ((v * 10 + (c.toNat - 48) : Nat) : Int) := by
          rw [wid (by omega) (by omega)]
          omega
        have e4 : wrap64 ((i : Int) + 1) = ((i + 1 : Nat) : Int) := wrap_add (k := 1) (by omega) (by omega)
        rw [e1, e2, e3, e4]
        by_cases hb2 : v * 10 + (c.toNat - 48) ≤ 1099511627776
        · rw [if_neg (by omega)]
          exact value_l0 s hs d k (i + 1) _ (by omega) (by omega) hb2
        · rw [if_pos (by omega)]
          unfold vfin
          cases hd : dval (s.data.toList.drop (i + 1)) (v * 10 + (c.toNat - 48)) with
          | none => rfl
          | some x =>
            have := dval_ge _ _ _ hd
            simp only
            rw [if_neg (by omega)]
theorem value_eq (s : ByteArray) (hs : s.size ≤ 1000000000) (k : Nat) (hk : 2 * s.size + 50 < k) : earshotref2_value.f k s = some (vS s.data.toList) := by
  obtain ⟨k, rfl⟩ : ∃ m, k = m + 1 := ⟨k - 1, by omega⟩
  have hl : s.data.toList.length = s.size := by rw [Array.length_toList]; rfl
  unfold earshotref2_value.f vS
  by_cases h0 : s.size = 0
  · have : s.data.toList = [] := List.length_eq_zero_iff.1 (by omega)
    rw [if_pos (by omega), if_pos this, earshotref2_value.j0, if_pos rfl]
  · have hne : ¬ s.data.toList = [] := fun e => by rw [e] at hl; simp at hl; omega
    rw [if_neg (by omega), if_pos (by omega), if_neg hne]
    obtain ⟨c, hc⟩ : ∃ c, s.data.toList[0]? = some c := ⟨_, List.getElem?_eq_getElem (by omega)⟩
    have hb := bt_list s hc
    rw [show ((0 : Nat) : Int) = 0 from rfl] at hb
    have hh : s.data.toList.head? = some c := by rw [List.head?_eq_getElem?]; exact hc
    have fin : earshotref2_value.l0 k s 0 0 = some (vfin s.data.toList 0) := value_l0 s hs s.size k 0 0 (by omega) (by omega) (by omega)
    rw [hb, hh]
    by_cases h48 : (c.toNat : Int) = 48
    · have ec : c = 48 := by
        have : c.toNat = 48 := by omega
        rw [← byte_ofNat c, this]
        rfl
      rw [if_pos h48, earshotref2_value.j0]
      by_cases h1 : 1 < s.size
      · rw [if_pos (decide_eq_true (by omega)), if_pos ⟨by rw [ec], by omega⟩]
      · rw [decide_eq_false (show ¬ (s.size : Int) > 1 by omega), if_neg Bool.false_ne_true, if_neg (fun h => by have := h.2; omega)]
        exact fin
    · have ec : ¬ c = 48 := fun e => by rw [e] at h48; exact h48 rfl
      rw [if_neg h48, earshotref2_value.j0, if_neg Bool.false_ne_true, if_neg (fun h => ec (Option.some.inj h.1))]
      exact fin
theorem number_eq (s : ByteArray) (hs : s.size ≤ 1000000000) (k : Nat) (hk : 2 * s.size + 50 < k) : earshotref2_Number.f k s = some (if vS s.data.toList < 0 then (0, 21) else (vS s.data.toList, 0)) := by
  unfold earshotref2_Number.f
  rw [value_eq s hs k hk, Option.bind_some]
  split <;> rfl
theorem extract_list (s : ByteArray) (i : Nat) : (s.extract i s.size).data.toList = s.data.toList.drop i := by
  rw [ByteArray.data_extract, Array.toList_extract]
  have h : s.data.toList.length = s.size := by rw [Array.length_toList]; rfl
  rw [List.extract_eq_take_drop, List.take_of_length_le (by rw [List.length_drop]; omega)]
theorem nid_eq (l : List Int) (x : Int) (k : Nat) (hk : l.length < k) (hl : l.length ≤ 100) : earshotref4_Id.f k l x = some (fnd l x 0) := by
  unfold earshotref4_Id.f
  rw [find_eq l x k hk (by omega), Option.bind_some]
theorem j1_eq (s : ByteArray) (i : Nat) (c : UInt8) (hc : s.data.toList[i]? = some c) (o t : Int) (k : Nat) : earshotref5_Read.j1 (k + 1) s (i : Int) o t false = some (if c.toNat = 63 then (o, t, 2, 0) else (o, t, 1, 0)) := by
  have hi : i < s.size := by simpa using (List.getElem?_eq_some_iff.1 hc).1
  rw [earshotref5_Read.j1, if_neg Bool.false_ne_true, if_pos (by omega), if_pos (by omega), bt_list s hc]
  by_cases h : c.toNat = 63
  · rw [if_pos (by omega), if_pos h]
  · rw [if_neg (by omega), if_neg h]
theorem j1_bad (s : ByteArray) (i : Int) (o t : Int) (k : Nat) : earshotref5_Read.j1 (k + 1) s i o t true = some (0, 0, 0, 80) := by
  rw [earshotref5_Read.j1, if_pos rfl]
theorem j0_bad (s : ByteArray) (i : Int) (o : Int) (k : Nat) : earshotref5_Read.j0 (k + 1) s i o true = some (0, 0, 0, 80) := by
  rw [earshotref5_Read.j0, if_pos rfl]
theorem j0_good (s : ByteArray) (i : Nat) (c : UInt8) (hc : s.data.toList[i]? = some c) (o : Int) (k : Nat) (hs : s.size ≤ 65536) (hk : 150000 ≤ k) (hi : i < 100000) :
    earshotref5_Read.j0 (k + 1) s (i : Int) o false = some (match num (s.data.toList.drop (i + 1)) with
      | none => (0, 0, 0, 80)
      | some t => if c.toNat = 63 then (o, (t : Int), 2, 0) else (o, (t : Int), 1, 0)) := by
  have hi' : i < s.size := by simpa using (List.getElem?_eq_some_iff.1 hc).1
  have e1 : wrap64 ((i : Int) + 1) = ((i + 1 : Nat) : Int) := wrap_add (k := 1) (by omega) (by omega)
  have hE : (s.extract (i + 1) s.size).size ≤ 65536 := by
    rw [ByteArray.size_extract]
    omega
  obtain ⟨k, rfl⟩ : ∃ m, k = m + 1 := ⟨k - 1, by omega⟩
  have hn := number_eq (s.extract (i + 1) s.size) (by omega) (k + 1) (by omega)
  rw [extract_list] at hn
  rw [earshotref5_Read.j0, if_neg Bool.false_ne_true, e1, if_pos (by omega), if_pos (by omega), Int.toNat_natCast, hn, Option.bind_some]
  cases hx : num (s.data.toList.drop (i + 1)) with
  | none =>
    generalize s.data.toList.drop (i + 1) = r at hx
    rcases vS_none hx with h | h
    · rw [if_pos h]
      simp only
      rw [if_neg (by decide), j1_bad]
    · rw [if_neg (show ¬ vS r < 0 by omega)]
      simp only
      rw [if_pos trivial, decide_eq_true (show vS r > 1048576 by omega), j1_bad]
  | some t =>
    have hv := vS_some hx
    have ht := (num_some hx).1
    rw [hv, if_neg (show ¬ ((t : Int) < 0) by omega)]
    simp only
    rw [if_pos trivial, decide_eq_false (show ¬ ((t : Int) > 1048576) by omega)]
    exact j1_eq s i c hc o t k
theorem readN_eq (l : List Int) (s : ByteArray) (hl : l.length ≤ 100) (k : Nat) (hk : 200000 ≤ k) : earshotref5_Read.f k l s = some (rdS l s) := by
  obtain ⟨k, rfl⟩ : ∃ m, k = m + 4 := ⟨k - 4, by omega⟩
  unfold earshotref5_Read.f rdS
  by_cases h1 : 65536 < s.size
  · rw [if_pos (by omega), if_pos h1]
  rw [if_neg (by omega), if_neg h1]
  by_cases h2 : s.size = 0
  · rw [if_pos (by omega), if_pos h2]
  rw [if_neg (by omega), if_neg h2]
  have ha := at_eq k s 0 (by omega) (by omega)
  rw [show ((0 : Nat) : Int) = 0 from rfl] at ha
  have hf := nid_eq l (rn s 0) (k + 4) (by omega) hl
  rw [ha, Option.bind_some]
  rw [hf, Option.bind_some]
  have hw := wd_pos s 0
  have hwl := wd_le s 0 (by omega)
  have hneg := fnd_neg l (rn s 0) 0 (by omega)
  by_cases h3 : lo s 0 = true
  · rw [if_pos h3, if_pos (.inl h3), j0_bad]
  rw [if_neg h3]
  by_cases h4 : rn s 0 ∈ l
  case neg => rw [if_pos (hneg.2 h4), if_pos (.inr h4), j0_bad]
  have h5 : ¬ (lo s 0 = true ∨ rn s 0 ∉ l) := fun h => h.elim h3 (fun h => h h4)
  rw [if_neg (by intro h; exact hneg.1 h h4), if_neg h5]
  simp only
  have e1 : wrap64 ((wd s 0 : Int) + 1) = ((wd s 0 + 1 : Nat) : Int) := wrap_add (k := 1) (by omega) (by omega)
  rw [e1]
  have hlen : s.data.toList.length = s.size := by rw [Array.length_toList]; rfl
  by_cases h6 : wd s 0 + 1 < s.size
  · rw [if_neg (by omega), if_pos (by omega), if_pos (by omega)]
    obtain ⟨c, hc⟩ : ∃ c, s.data.toList[wd s 0]? = some c := ⟨_, List.getElem?_eq_getElem (by omega)⟩
    have hdr : s.data.toList.drop (wd s 0) = c :: s.data.toList.drop (wd s 0 + 1) := by
      rw [List.drop_eq_getElem_cons (by omega)]
      congr 1
      exact (List.getElem?_eq_some_iff.1 hc).2
    have good := fun o => j0_good s (wd s 0) c hc o (k + 3) (by omega) (by omega) (by omega)
    rw [bt_list s hc, hdr]
    generalize s.data.toList.drop (wd s 0 + 1) = r at *
    by_cases h63 : (c.toNat : Int) = 63
    · have ec : c = 63 := by
        rw [← byte_ofNat c, show c.toNat = 63 by omega]
        rfl
      rw [if_pos h63, good]
      subst ec
      simp only [rdM]
      rw [if_neg (by decide), if_pos trivial]
      cases num r <;> rfl
    · rw [if_neg h63]
      have n63 : ¬ c = 63 := fun e => h63 (by rw [e]; rfl)
      by_cases h33 : (c.toNat : Int) = 33
      · have ec : c = 33 := by
          rw [← byte_ofNat c, show c.toNat = 33 by omega]
          rfl
        have x : ((c.toNat : Int) != 33) = false := by rw [h33]; rfl
        rw [x, good]
        subst ec
        simp only [rdM]
        rw [if_pos trivial]
        cases num r <;> rfl
      · have x : ((c.toNat : Int) != 33) = true := by simpa using h33
        have n33 : ¬ c = 33 := fun e => h33 (by rw [e]; rfl)
        rw [x, j0_bad]
        simp only [rdM]
        rw [if_neg n33, if_neg n63]
  · rw [if_pos (by omega), j0_bad]
    have hr : rdM (s.data.toList.drop (wd s 0)) = none := by
      have hl : (s.data.toList.drop (wd s 0)).length ≤ 1 := by
        rw [List.length_drop]
        omega
      generalize s.data.toList.drop (wd s 0) = m at hl
      match m, hl with
      | [], _ => rfl
      | [a], _ =>
        have : num [] = none := by unfold num; rw [if_neg (fun h => h.1 rfl)]
        simp only [rdM, this]
        by_cases h : a = 33
        · rw [if_pos h]; rfl
        · rw [if_neg h]
          by_cases h : a = 63
          · rw [if_pos h]; rfl
          · rw [if_neg h]
    rw [hr]
end Go.Proofs.YtgohhallpkknfaaDoor
