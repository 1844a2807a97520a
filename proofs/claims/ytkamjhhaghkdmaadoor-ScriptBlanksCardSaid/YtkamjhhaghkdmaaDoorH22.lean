/- Words of a line: numbers. The escapes of a quoted text. A scope with several labels. -/
import Derived.Test.YtkamjhhaghkdmaaDoorH21
import Derived.Test.YtkamjhhaghkdmaaDoorH16
namespace Go.Ear
set_option linter.unusedSimpArgs false
set_option linter.unusedVariables false
theorem cls3 (r : Int) : cls r = 3 ↔ 48 ≤ r ∧ r ≤ 57 := by
  unfold cls
  constructor
  · intro h
    split at h
    · omega
    split at h
    · omega
    split at h
    · assumption
    split at h
    · omega
    split at h <;> omega
  · intro h
    rw [if_neg (by omega), if_neg (by omega), if_pos h]
theorem dec_ascii (s : ByteArray) (p : Nat) (h : by' s p < 128) : rn s p = by' s p ∧ wd s p = 1 := by
  unfold rn wd
  rw [decode_eq]
  unfold decT decM
  rw [if_pos h]
  exact ⟨rfl, rfl⟩
theorem dig_rn (s : ByteArray) (p : Nat) (h : cls (rn s p) = 3) : wd s p = 1 ∧ rn s p = by' s p := by
  rw [cls3] at h
  have := dec_full s p
  have hb := by_lt s p
  rcases this with h1 | h1 | h1 | h1 | h1
  · exact ⟨h1.1, h1.2.1⟩
  · have := h1.2.2.2.1.2
    omega
  · omega
  · omega
  · omega
theorem rn_dig (s : ByteArray) (p : Nat) (h : cls (rn s p) ≠ 3) : ¬ (48 ≤ by' s p ∧ by' s p ≤ 57) := by
  rw [Ne, cls3] at h
  intro hb
  have := dec_ascii s p (by omega)
  omega
/-- What is left to read of a number. -/
def restV (s : ByteArray) (p n : Nat) : Option Nat := dval (s.data.toList.drop p) n
theorem restV_step (s : ByteArray) (p n : Nat) (h : p < s.size) : restV s p n = if 48 ≤ by' s p ∧ by' s p ≤ 57 then restV s (p + 1) (n * 10 + (by' s p - 48)) else none := by
  unfold restV
  have hb := list_by s h
  have hl : p < s.data.toList.length := (List.getElem?_eq_some_iff.1 hb).1
  have hd : s.data.toList.drop p = UInt8.ofNat (by' s p) :: s.data.toList.drop (p + 1) := by
    rw [List.drop_eq_getElem_cons hl]
    rw [(List.getElem?_eq_some_iff.1 hb).2]
  rw [hd]
  simp only [dval, isDig, ofNat_toNat (by_lt s p)]
theorem restV_end (s : ByteArray) (n : Nat) : restV s s.size n = some n := by
  unfold restV
  rw [List.drop_of_length_le (by show s.data.toList.length ≤ s.data.size; simp)]
  rfl
theorem numW_none {l : List UInt8} (h : dval l 0 = none ∨ ¬ canon l ∨ ∃ v, dval l 0 = some v ∧ 1099511627776 < v) : numW l = -1 := by
  unfold numW
  rcases h with h | h | ⟨v, h, h2⟩
  · rw [h]
    simp
  · rw [if_neg h]
  · rw [h]
    simp only
    rw [if_neg (show ¬ v ≤ 1099511627776 by omega)]
    simp
theorem restV_ge (s : ByteArray) (p n v : Nat) (h : restV s p n = some v) : n ≤ v := dval_ge _ _ _ h
end Go.Ear
namespace Go.Proofs.YtkamjhhaghkdmaaDoor
open Go.RowKit Go.Ear Go.Proofs.YtkamjhhaghkdmaaDoorW.PrintWords Go.Proofs.YtkamjhhaghkdmaaDoor.PScriptLines
set_option maxHeartbeats 4000000
set_option maxRecDepth 100000
set_option linter.unusedSimpArgs false
set_option linter.unusedVariables false
theorem tens {k u v : Nat} (h : k * 10 + u = v) (hk : k ≤ 1099511627776) (hu : u < 10) : wrap64 (10 * (k : Int) + (u : Int)) = (v : Int) := by
  have e : 10 * (k : Int) + (u : Int) = (v : Int) := by
    rw [← h]
    push_cast
    rw [Int.mul_comm]
  rw [e]
  have hv : v ≤ 1000000000000000 := by
    have : k * 10 ≤ 1099511627776 * 10 := Nat.mul_le_mul_right 10 hk
    have : 1099511627776 * 10 + 10 ≤ 1000000000000000 := by decide
    omega
  exact wrapN hv
/-- What number answers. -/
def numRes (s : ByteArray) : Value := if numW s.data.toList < 0 then .tuple #[.int .i64 0, .bool false] else .tuple #[.int .i64 (numW s.data.toList), .bool true]
theorem numRes_none {s : ByteArray} (h : numW s.data.toList = -1) : numRes s = .tuple #[.int .i64 0, .bool false] := by
  unfold numRes
  rw [h]
  rfl
theorem number_any (s : ByteArray) (w : World) (hs : s.size ≤ 100000000000) : Calls Tryd.prog 25 #[.string s] w (Gr (numRes s) w) := by
  have hcl := class_any
  have HS := Lib.hid hs
  clear hs
  go_enter Tryd.func25, Tryd.ntmps25
  go_wp2
  go_loopw [4] (fun n wr => ∃ (p k : Nat), Chg Noth w wr ∧ n = .int .i64 (k : Int) ∧ wr.heap[w.heap.size]? = some (.stringIter s p) ∧ p ≤ s.size ∧ k ≤ 1099511627776 ∧ (p < 2 ∨ by' s 0 ≠ 48) ∧ dval s.data.toList 0 = restV s p k) (fun n wr => s.size - wr.iterPos w.heap.size)
  case atStart =>
    exact ⟨0, 0, chg_alloc (Chg.refl _ _) _, rfl, World.iter_heap w s 0, by omega, by omega, .inl (by omega), by simp [restV]⟩
  case round =>
    obtain ⟨p, k, hc, rfl, hit, hp, hkm, hz, hk⟩ := hrel
    have hsz : w.heap.size < wr.heap.size := (Array.getElem?_eq_some_iff.1 hit).1
    by_cases hlt : p < s.size
    · have hnx : ∀ ty, (Instr.next (.pointer (some ⟨w.heap.size, 0, none⟩)) true ty).run Tryd.prog wr = _ := fun ty => Lib.run_next_any_at wr w.heap.size s p ty hit hlt
      have hwd := wd_pos s p
      have hwl := wd_le s p hlt
      simp only [← show rn s p = ((Utf8.decode s p).1 : Int) from rfl, ← show wd s p = (Utf8.decode s p).2 from rfl] at hnx
      obtain ⟨W2, hW2⟩ : ∃ W2, wr.iterAt w.heap.size s (p + wd s p) = W2 := ⟨_, rfl⟩
      have hcw : Chg Noth w W2 := by rw [← hW2]; exact iterAt_chg hc (by omega) _ _
      have hit2 : W2.heap[w.heap.size]? = some (.stringIter s (p + wd s p)) := by rw [← hW2]; exact Lib.iterAt_heap _ _ _ _ _ hit
      rw [hW2] at hnx
      rw [restV_step s p k hlt] at hk
      have i2 : Old w.heap.size W2 := ⟨(Array.getElem?_eq_some_iff.1 hit2).1⟩
      have L := Lib.hid (And.intro hcw (And.intro hit2 (And.intro hit (And.intro hk (And.intro hz hkm)))))
      clear hcw hit2 hit hk hc hW2 hz
      by_cases h3 : cls (rn s p) = 3
      · have x1 : (cls (rn s p) != 3) = false := by simp [h3]
        have hd := dig_rn s p h3
        have hdr := (cls3 _).1 h3
        rw [hd.2] at hdr
        have hb : by' s p < 58 := by omega
        have hcl3 := hcl (rn s p)
        rw [h3] at hcl3
        rw [hd.2] at hcl3 hnx
        have hwd1 := hd.1
        obtain ⟨d, hdd⟩ : ∃ d, by' s p = d := ⟨_, rfl⟩
        rw [hdd] at hcl3 hnx hdr hb
        have hss : 0 < s.size := by omega
        have hget : ((s[0]'hss).toNat : Int) = by' s 0 := by
          unfold by'
          have : s.get! 0 = s[0]'hss := by
            show s.data[0]! = _
            rw [getElem!_pos s.data 0 hss]
            rfl
          rw [this]
        obtain ⟨u, hu⟩ : ∃ u, d - 48 = u := ⟨_, rfl⟩
        have hu10 : u < 10 := by rw [← hu]; clear hkm hp hwl hwd hsz hlt hget; omega
        have y1 : wrap32 ((d : Int) - 48) = (u : Int) := by
          rw [show (d : Int) - 48 = (u : Int) by omega]
          unfold wrap32
          omega
        have y2 : wrap64 (u : Int) = (u : Int) := wrapN (Nat.le_trans (Nat.le_of_lt hu10) (by decide))
        obtain ⟨v, hv⟩ : ∃ v, k * 10 + u = v := ⟨_, rfl⟩
        have y3 : wrap64 (10 * (k : Int) + (u : Int)) = (v : Int) := tens hv hkm hu10
        have hq := L.out.2.2.2.1
        rw [hdd, if_pos (by omega), hu, hv] at hq
        have hz := L.out.2.2.2.2.1
        have B := Lib.hid (And.intro hq (And.intro hz (And.intro hv (And.intro hu (And.intro hdd hwd1)))))
        have G0 := Lib.hid hget
        clear hq hz hv hu hu10 hdd hwd1 hget hd hdr hb h3 x1
        by_cases hp0 : 0 < p
        · by_cases hz0 : by' s 0 = 48
          · have hl0 : canon s.data.toList → False := by
              intro hc
              have hl : s.data.toList.length = s.size := by simp
              rcases hc.2 with h | h
              · apply h
                rw [List.head?_eq_getElem?, list_by s (i := 0) (by omega), hz0]
                rfl
              · omega
            have HN := Lib.hid (numRes_none (s := s) (numW_none (.inr (.inl hl0))))
            have hbt : (((s[0]'hss).toNat : Int) == 48) = true := by rw [G0.out, hz0]; rfl
            clear hl0 hz0
            go_wp2_with (go_at_call 22; refine (hcl3 _).mono ?_; rintro e w' ⟨rfl, g, rfl⟩)
            refine bodyPost_ret (v := .tuple #[.int .i64 0, .bool false]) (by simp [results, Tryd.results25, go_sem]) rfl ?_
            rw [HN.out]
            exact gr_mk rfl (L.out.1.trans g.h (fun _ _ e => e))
          · have hbt : (((s[0]'hss).toNat : Int) == 48) = false := by rw [G0.out]; simp; omega
            have HZ := Lib.hid hz0
            clear hz0
            by_cases hm : 1099511627776 < v
            · have x3 : decide ((1099511627776 : Int) < (v : Int)) = true := by simp; omega
              have HN := Lib.hid (numRes_none (s := s) (numW_none (by
                cases hx : dval s.data.toList 0 with
                | none => exact .inl rfl
                | some t =>
                  have := restV_ge s (p + 1) v t (by rw [← B.out.1]; exact hx)
                  exact .inr (.inr ⟨t, rfl, by omega⟩))))
              clear hm
              go_wp2_with (go_at_call 22; refine (hcl3 _).mono ?_; rintro e w' ⟨rfl, g, rfl⟩)
              refine bodyPost_ret (v := .tuple #[.int .i64 0, .bool false]) (by simp [results, Tryd.results25, go_sem]) rfl ?_
              rw [HN.out]
              exact gr_mk rfl (L.out.1.trans g.h (fun _ _ e => e))
            · have x3 : decide ((1099511627776 : Int) < (v : Int)) = false := by simp; omega
              have HM := Lib.hid hm
              clear hm
              go_wp2_with (go_at_call 22; refine (hcl3 _).mono ?_; rintro e w' ⟨rfl, g, rfl⟩)
              have hI := (g.h.block _ i2.lt (fun e => e)).trans L.out.2.1
              have hw1 := B.out.2.2.2.2.2
              refine ⟨⟨p + wd s p, v, L.out.1.trans g.h (fun _ _ e => e), by simp [*], hI, hwl, by have := HM.out; omega, .inr HZ.out, by rw [hw1]; exact B.out.1⟩, ?_⟩
              simp only [World.iterPos, hI, L.out.2.2.1]
              omega
        · by_cases hm : 1099511627776 < v
          · have x3 : decide ((1099511627776 : Int) < (v : Int)) = true := by simp; omega
            have HN := Lib.hid (numRes_none (s := s) (numW_none (by
              cases hx : dval s.data.toList 0 with
              | none => exact .inl rfl
              | some t =>
                have := restV_ge s (p + 1) v t (by rw [← B.out.1]; exact hx)
                exact .inr (.inr ⟨t, rfl, by omega⟩))))
            clear hm
            go_wp2_with (go_at_call 22; refine (hcl3 _).mono ?_; rintro e w' ⟨rfl, g, rfl⟩)
            refine bodyPost_ret (v := .tuple #[.int .i64 0, .bool false]) (by simp [results, Tryd.results25, go_sem]) rfl ?_
            rw [HN.out]
            exact gr_mk rfl (L.out.1.trans g.h (fun _ _ e => e))
          · have x3 : decide ((1099511627776 : Int) < (v : Int)) = false := by simp; omega
            have HM := Lib.hid hm
            clear hm
            go_wp2_with (go_at_call 22; refine (hcl3 _).mono ?_; rintro e w' ⟨rfl, g, rfl⟩)
            have hI := (g.h.block _ i2.lt (fun e => e)).trans L.out.2.1
            have hw1 := B.out.2.2.2.2.2
            refine ⟨⟨p + wd s p, v, L.out.1.trans g.h (fun _ _ e => e), by simp [*], hI, hwl, by have := HM.out; omega, .inl (by omega), by rw [hw1]; exact B.out.1⟩, ?_⟩
            simp only [World.iterPos, hI, L.out.2.2.1]
            omega
      · have x1 : (cls (rn s p) != 3) = true := by simp [h3]
        have hn := rn_dig s p h3
        have hq := L.out.2.2.2.1
        rw [if_neg hn] at hq
        have HN := Lib.hid (numRes_none (numW_none (.inl hq)))
        clear hq h3 hn
        go_wp2_with (go_at_call 22; refine (hcl _ _).mono ?_; rintro e w' ⟨rfl, g, rfl⟩)
        refine bodyPost_ret (v := .tuple #[.int .i64 0, .bool false]) (by simp [results, Tryd.results25, go_sem]) rfl ?_
        rw [HN.out]
        exact gr_mk rfl (L.out.1.trans g.h (fun _ _ e => e))
    · have hnx : ∀ ty, (Instr.next (.pointer (some ⟨w.heap.size, 0, none⟩)) true ty).run Tryd.prog wr = _ := fun ty => Lib.run_next_end_at wr w.heap.size s p ty hit hlt
      obtain rfl : p = s.size := by omega
      rw [restV_end] at hk
      have HC := Lib.hid (And.intro hc (And.intro hk (And.intro hz hkm)))
      clear hc hit hk hz hkm
      by_cases h0 : s.size = 0
      · have x1 : s.toList.isEmpty = true := by
          rw [← decide_eq_emptyBytes]
          exact decide_eq_true (by apply ByteArray.ext; exact Array.eq_empty_of_size_eq_zero h0)
        have h1 : s.data.toList = [] := by
          apply List.eq_nil_of_length_eq_zero
          rw [← h0]
          simp
        have hk0 : k = 0 := by
          have := HC.out.2.1
          rw [h1] at this
          simp only [dval, Option.some.injEq] at this
          exact this.symm
        subst hk0
        have HN := Lib.hid (numRes_none (s := s) (numW_none (.inr (.inl (by rw [h1]; unfold canon; simp)))))
        clear h1 h0
        go_wp2
        refine bodyPost_ret (v := .tuple #[.int .i64 0, .bool false]) (by simp [results, Tryd.results25, go_sem, x1]) rfl ?_
        rw [HN.out]
        exact gr_mk rfl HC.out.1
      · have x1 : s.toList.isEmpty = false := by
          rw [← decide_eq_emptyBytes]
          exact decide_eq_false (fun h => h0 (by rw [h]; rfl))
        have hN : numRes s = .tuple #[.int .i64 (k : Int), .bool true] := by
          have hc : canon s.data.toList := by
            have hl : s.data.toList.length = s.size := by simp
            unfold canon
            refine ⟨fun e => by rw [e] at hl; simp at hl; omega, ?_⟩
            rcases HC.out.2.2.1 with h | h
            · exact .inr (by omega)
            · refine .inl ?_
              have := list_by s (i := 0) (by omega)
              rw [List.head?_eq_getElem?, this]
              intro e
              injection e with e
              have := congrArg UInt8.toNat e
              rw [ofNat_toNat (by_lt _ _)] at this
              exact h this
          have e : numW s.data.toList = (k : Int) := by
            unfold numW
            rw [if_pos hc, HC.out.2.1]
            simp only
            rw [if_pos HC.out.2.2.2]
          unfold numRes
          rw [e, if_neg (by omega)]
        have HN := Lib.hid hN
        clear hN h0
        go_wp2
        refine bodyPost_ret (v := .tuple #[.int .i64 (k : Int), .bool true]) (by simp [results, Tryd.results25, go_sem, x1]) rfl ?_
        rw [HN.out]
        exact gr_mk rfl HC.out.1
end Go.Proofs.YtkamjhhaghkdmaaDoor
namespace Go.Ear
set_option linter.unusedSimpArgs false
set_option linter.unusedVariables false
theorem esc_ext (s : ByteArray) (i : Nat) : esc (s.extract i s.size) 0 = esc s i := by
  have hh := hexF_ext s i 6 (0 + 3) 0
  have hl := hexF_le s 6 (i + 3) 0
  rw [Nat.zero_add] at hh
  unfold esc
  simp only [atB_ext, Nat.zero_add, hh]
  have e2 : i + ((hexF s 6 (i + 3) 0).2 - i) = (hexF s 6 (i + 3) 0).2 := by omega
  simp only [e2]
  have e3 : (3 < (hexF s 6 (i + 3) 0).2 - i) = (i + 3 < (hexF s 6 (i + 3) 0).2) := by
    apply propext
    omega
  have e4 : (hexF s 6 (i + 3) 0).2 - i + 1 - 0 = (hexF s 6 (i + 3) 0).2 + 1 - i := by omega
  simp only [e3, e4]
theorem atB_in {s : ByteArray} {i : Nat} (h : atB s i ≠ 0) : i < s.size ∧ atB s i = by' s i := by
  unfold atB at h ⊢
  by_cases hi : i < s.size
  · exact ⟨hi, if_pos hi⟩
  · rw [if_neg hi] at h
    exact absurd rfl h
theorem hexV_low {c : Nat} (h : 0 ≤ hexV c) : 48 ≤ c ∧ c ≤ 102 := by
  unfold hexV at h
  split at h
  · omega
  split at h
  · omega
  split at h
  · omega
  · omega
theorem hexV_bound (c : Nat) : -1 ≤ hexV c ∧ hexV c ≤ 15 := by
  unfold hexV
  split
  · omega
  split
  · omega
  split <;> omega
theorem hexF_low (s : ByteArray) : ∀ f i v j, i ≤ j → j < (hexF s f i v).2 → 48 ≤ atB s j ∧ atB s j ≤ 102
  | 0, i, v, j, h, h' => by simp only [hexF] at h'; omega
  | f + 1, i, v, j, h, h' => by
    simp only [hexF] at h'
    by_cases hx : 0 ≤ hexV (atB s i)
    · rw [if_pos hx] at h'
      by_cases hj : i = j
      · subst hj
        exact hexV_low hx
      · exact hexF_low s f (i + 1) _ j (by omega) h'
    · rw [if_neg hx] at h'
      omega
theorem hexF_val (s : ByteArray) : ∀ f i v, (hexF s f i v).1 < (v + 1) * 16 ^ f
  | 0, i, v => by simp [hexF]
  | f + 1, i, v => by
    simp only [hexF]
    by_cases hx : 0 ≤ hexV (atB s i)
    · rw [if_pos hx]
      have h1 := hexF_val s f (i + 1) (v * 16 + (hexV (atB s i)).toNat)
      have h2 := (hexV_bound (atB s i)).2
      refine Nat.lt_of_lt_of_le h1 ?_
      rw [Nat.pow_succ, Nat.mul_comm (16 ^ f) 16, ← Nat.mul_assoc]
      apply Nat.mul_le_mul_right
      omega
    · rw [if_neg hx]
      have : 1 ≤ 16 ^ (f + 1) := Nat.pos_of_neZero _
      have : v + 1 ≤ (v + 1) * 16 ^ (f + 1) := Nat.le_mul_of_pos_right _ this
      omega
/-- The bytes of an escape are within the text, and plain. -/
theorem esc_low (s : ByteArray) (i : Nat) (h0 : atB s i = 92) {b : List UInt8} {n : Nat} (h : esc s i = some (b, n)) : 2 ≤ n ∧ n ≤ 11 ∧ ∀ j, i ≤ j → j < i + n → j < s.size ∧ by' s j < 128 := by
  have fin : ∀ j, 1 ≤ atB s j → atB s j < 128 → j < s.size ∧ by' s j < 128 := fun j h1 h2 => by
    have := atB_in (s := s) (i := j) (by omega)
    exact ⟨this.1, by rw [← this.2]; exact h2⟩
  unfold esc at h
  simp only at h
  have two : ∀ c, atB s (i + 1) = c → 1 ≤ c → c < 128 → ∀ j, i ≤ j → j < i + 2 → j < s.size ∧ by' s j < 128 := fun c hc h1 h2 j hj hj' => by
    rcases (show j = i ∨ j = i + 1 by omega) with rfl | rfl
    · exact fin _ (by omega) (by omega)
    · exact fin _ (by omega) (by omega)
  split at h
  · rename_i h1
    simp only [Option.some.injEq, Prod.mk.injEq] at h
    obtain ⟨_, rfl⟩ := h
    refine ⟨by omega, by omega, two _ rfl (by omega) (by omega)⟩
  split at h
  · rename_i h1
    simp only [Option.some.injEq, Prod.mk.injEq] at h
    obtain ⟨_, rfl⟩ := h
    refine ⟨by omega, by omega, two _ rfl (by omega) (by omega)⟩
  split at h
  · rename_i h1
    simp only [Option.some.injEq, Prod.mk.injEq] at h
    obtain ⟨_, rfl⟩ := h
    refine ⟨by omega, by omega, two _ rfl (by omega) (by omega)⟩
  split at h
  · rename_i h1
    simp only [Option.some.injEq, Prod.mk.injEq] at h
    obtain ⟨_, rfl⟩ := h
    refine ⟨by omega, by omega, two _ rfl (by omega) (by omega)⟩
  split at h
  · rename_i h1
    split at h
    · rename_i h2
      simp only [Option.some.injEq, Prod.mk.injEq] at h
      obtain ⟨_, rfl⟩ := h
      refine ⟨by omega, by omega, fun j hj hj' => ?_⟩
      have a := hexV_low h2.1
      have c := hexV_low h2.2
      rcases (show j = i ∨ j = i + 1 ∨ j = i + 2 ∨ j = i + 3 by omega) with rfl | rfl | rfl | rfl
      · exact fin _ (by omega) (by omega)
      · exact fin _ (by omega) (by omega)
      · exact fin _ (by omega) (by omega)
      · exact fin _ (by omega) (by omega)
    · cases h
  split at h
  · rename_i h1
    split at h
    · rename_i h2
      split at h
      · rename_i h3
        simp only [Option.some.injEq, Prod.mk.injEq] at h
        obtain ⟨_, rfl⟩ := h
        have hl := hexF_le s 6 (i + 3) 0
        refine ⟨by omega, by omega, fun j hj hj' => ?_⟩
        by_cases c1 : j < i + 3
        · rcases (show j = i ∨ j = i + 1 ∨ j = i + 2 by omega) with rfl | rfl | rfl
          · exact fin _ (by omega) (by omega)
          · exact fin _ (by omega) (by omega)
          · exact fin _ (by omega) (by omega)
        · by_cases c2 : j < (hexF s 6 (i + 3) 0).2
          · have := hexF_low s 6 (i + 3) 0 j (by omega) c2
            exact fin _ (by omega) (by omega)
          · obtain rfl : j = (hexF s 6 (i + 3) 0).2 := by omega
            exact fin _ (by omega) (by omega)
      · cases h
    · cases h
  · cases h
end Go.Ear
namespace Go
/-- As Q; by a goto to label l: J l. -/
def Exit.jumps (J : Nat → Act → World → Prop) (Q : Exit → Act → World → Prop) : Exit → Act → World → Prop
  | .goto l, a, w => J l a w
  | e, a, w => Q e a w
section
variable {P : Program} {a : Act} {w : World} {Q : Exit → Act → World → Prop}
theorem wp_scope_labels {c : Code} (J : Nat → Act → World → Prop) (μ : Nat → Act → World → Nat)
    (first : c.wp P (Exit.jumps J Q) a w)
    (pass : ∀ l a w, J l a w → ∃ rest, findLabel c l = some rest ∧ rest.wp P (Exit.jumps (fun l' a' w' => J l' a' w' ∧ μ l' a' w' < μ l a w) Q) a w) : (Code.scope c).wp P Q a w := by
  intro b k cs
  have key : ∀ n l a w, μ l a w = n → J l a w → ∃ its, gotoIn l (.inScope c :: k) = some its ∧ ∃ e a' w', Q e a' w' ∧ Arrives P (lone (b.at a its) cs w) b k cs e a' w' := by
    intro n
    induction n using Nat.strongRecOn with
    | _ n ih =>
      intro l a w hn hJ
      obtain ⟨rest, hf, hp⟩ := pass l a w hJ
      refine ⟨.code rest :: .inScope c :: k, by simp [gotoIn, hf], ?_⟩
      obtain ⟨e, a₁, w₁, hq, harr⟩ := hp b (.inScope c :: k) cs
      cases e with
      | normal => exact ⟨.normal, a₁, w₁, hq, Steps.trans harr (.one step_inScope)⟩
      | exit id => exact ⟨.exit id, a₁, w₁, hq, fun k' hk => harr k' (by simp [exitTo, hk])⟩
      | goto l' =>
        obtain ⟨hJ', hlt⟩ := hq
        obtain ⟨its, hg, e₂, a₂, w₂, hq₂, harr₂⟩ := ih _ (by omega) l' a₁ w₁ rfl hJ'
        exact ⟨e₂, a₂, w₂, hq₂, .of_steps (harr _ hg) harr₂⟩
      | ret => exact ⟨_, a₁, w₁, hq, harr⟩
      | panic ch => exact ⟨_, a₁, w₁, hq, harr⟩
      | outgrown => exact ⟨_, a₁, w₁, hq, harr⟩
  obtain ⟨e, a₁, w₁, hq, harr⟩ := first b (.inScope c :: k) cs
  cases e with
  | normal => exact ⟨.normal, a₁, w₁, hq, .head step_scope (Steps.trans harr (.one step_inScope))⟩
  | exit id => exact ⟨.exit id, a₁, w₁, hq, fun k' hk => .head step_scope (harr k' (by simp [exitTo, hk]))⟩
  | goto l' =>
    obtain ⟨its, hg, e₂, a₂, w₂, hq₂, harr₂⟩ := key _ l' a₁ w₁ rfl hq
    exact ⟨e₂, a₂, w₂, hq₂, .of_steps (.head step_scope (harr _ hg)) harr₂⟩
  | ret => exact ⟨_, a₁, w₁, hq, .of_steps (.one step_scope) harr⟩
  | panic ch => exact ⟨_, a₁, w₁, hq, .of_steps (.one step_scope) harr⟩
  | outgrown => exact ⟨_, a₁, w₁, hq, .of_steps (.one step_scope) harr⟩
/-- As Q; by a goto: on from its label, so often at most. -/
def Exit.chain (P : Program) (c : Code) (Q : Exit → Act → World → Prop) : Nat → Exit → Act → World → Prop
  | 0, .goto _, _, _ => False
  | n + 1, .goto l, a, w => ∃ rest, findLabel c l = some rest ∧ rest.wp P (Exit.chain P c Q n) a w
  | _, e, a, w => Q e a w
theorem chain_other {c : Code} {n : Nat} {e : Exit} {a : Act} {w : World} (he : ∀ l, e ≠ .goto l) : Exit.chain P c Q n e a w = Q e a w := by
  cases n <;> cases e <;> first | rfl | exact absurd rfl (he _)
@[simp] theorem chain_ret {c : Code} {n : Nat} : Exit.chain P c Q n .ret a w = Q .ret a w := chain_other (fun _ => by simp)
theorem wp_scope_chain {c : Code} (n : Nat) (first : ∀ c', c' = c → c.wp P (Exit.chain P c' Q n) a w) : (Code.scope c).wp P Q a w := by
  intro b k cs
  have fin : ∀ n its a w, (∃ e a₁ w₁, Exit.chain P c Q n e a₁ w₁ ∧ Arrives P (lone (b.at a its) cs w) b (.inScope c :: k) cs e a₁ w₁) → ∃ e a' w', Q e a' w' ∧ Arrives P (lone (b.at a its) cs w) b k cs e a' w' := by
    intro n
    induction n with
    | zero =>
      rintro its a w ⟨e, a₁, w₁, hq, harr⟩
      cases e with
      | normal => exact ⟨.normal, a₁, w₁, hq, Steps.trans harr (.one step_inScope)⟩
      | exit id => exact ⟨.exit id, a₁, w₁, hq, fun k' hk => harr k' (by simp [exitTo, hk])⟩
      | goto l' => exact hq.elim
      | ret => exact ⟨_, a₁, w₁, hq, harr⟩
      | panic ch => exact ⟨_, a₁, w₁, hq, harr⟩
      | outgrown => exact ⟨_, a₁, w₁, hq, harr⟩
    | succ n ih =>
      rintro its a w ⟨e, a₁, w₁, hq, harr⟩
      cases e with
      | normal => exact ⟨.normal, a₁, w₁, hq, Steps.trans harr (.one step_inScope)⟩
      | exit id => exact ⟨.exit id, a₁, w₁, hq, fun k' hk => harr k' (by simp [exitTo, hk])⟩
      | goto l' =>
        obtain ⟨rest, hf, hp⟩ := hq
        obtain ⟨e₂, a₂, w₂, hq₂, harr₂⟩ := ih (.code rest :: .inScope c :: k) a₁ w₁ (hp b (.inScope c :: k) cs)
        exact ⟨e₂, a₂, w₂, hq₂, .of_steps (harr _ (by simp [gotoIn, hf])) harr₂⟩
      | ret => exact ⟨_, a₁, w₁, hq, harr⟩
      | panic ch => exact ⟨_, a₁, w₁, hq, harr⟩
      | outgrown => exact ⟨_, a₁, w₁, hq, harr⟩
  obtain ⟨e, a', w', hq, harr⟩ := fin n _ a w (first c rfl b (.inScope c :: k) cs)
  exact ⟨e, a', w', hq, .of_steps (.one step_scope) harr⟩
end
end Go
