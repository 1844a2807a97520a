/- Characters: what glyph.char comes to. A text's first character; a sign's node. Decimal numerals: plain words. -/
import Derived.Test.YtkamjhhaghkdmaaDoorH13
import Derived.Test.YtkamjhhaghkdmaaDoorH17
import Derived.Lib.Strings
import Derived.Lib.ItoaNum
import Derived.Lib.AtoiAllCases
namespace Go.Ear
set_option maxRecDepth 100000
/-- U+FFFD itself. -/
def hasFF (s : ByteArray) (i : Nat) : Bool := decide (i + 2 < s.size ∧ by' s i = 239 ∧ by' s (i + 1) = 191 ∧ by' s (i + 2) = 189)
theorem dec_cases (s : ByteArray) (i : Nat) : (wd s i = 1 ∧ rn s i < 128) ∨ (wd s i = 2 ∧ 128 ≤ rn s i ∧ rn s i ≤ 2047) ∨ (wd s i = 3 ∧ 2048 ≤ rn s i ∧ rn s i ≤ 65535 ∧ ¬ (55296 ≤ rn s i ∧ rn s i ≤ 57343)) ∨ (wd s i = 4 ∧ 65536 ≤ rn s i ∧ rn s i ≤ 1114111) ∨ (wd s i = 1 ∧ rn s i = 65533) := by
  have b0 := by_lt s i
  have b1 := by_lt s (i + 1)
  have b2 := by_lt s (i + 2)
  unfold rn wd
  rw [decode_eq]
  unfold decT decM
  split
  · left; simp; omega
  split
  · rename_i h; right; left
    obtain ⟨h1, h2, h3⟩ := h
    have := (of_decide_eq_true h3).2
    refine ⟨rfl, ?_, ?_⟩ <;> simp only <;> omega
  split
  · rename_i h; right; right; left
    obtain ⟨h1, h2, h3, h4, h5, h6⟩ := h
    have h3 := (of_decide_eq_true h3).2
    have h4 := (of_decide_eq_true h4).2
    have : v3 (by' s i) (by' s (i + 1)) (by' s (i + 2)) ≤ 65535 := by unfold v3; omega
    refine ⟨rfl, ?_, ?_, ?_⟩ <;> simp only <;> omega
  split
  · rename_i h; right; right; right; left
    obtain ⟨h1, h2, h3, h4, h5, h6, h7⟩ := h
    refine ⟨rfl, ?_, ?_⟩ <;> simp only <;> omega
  · right; right; right; right
    simp
theorem ff_iff (s : ByteArray) (i : Nat) (hr : rn s i = 65533) : (hasFF s i = true ∧ wd s i = 3) ∨ (hasFF s i = false ∧ wd s i = 1) := by
  have b0 := by_lt s i
  have b1 := by_lt s (i + 1)
  have b2 := by_lt s (i + 2)
  by_cases hf : hasFF s i = true
  · left
    refine ⟨hf, ?_⟩
    have hf' := of_decide_eq_true hf
    obtain ⟨h0, h1, h2, h3⟩ := hf'
    have g1 : go s (i + 1) := ⟨by omega, by omega, by omega⟩
    have g2 : go s (i + 2) := ⟨by omega, by omega, by omega⟩
    unfold wd
    rw [decode_eq]
    unfold decT decM
    rw [h1, h2, h3]
    simp [g1, g2, v3]
  · right
    refine ⟨by simpa using hf, ?_⟩
    rcases dec_cases s i with ⟨h, h'⟩ | ⟨h, h'⟩ | ⟨h, h'⟩ | ⟨h, h'⟩ | ⟨h, h'⟩
    · exact h
    · omega
    · exfalso
      apply hf
      unfold wd at h
      unfold rn at hr
      rw [decode_eq] at h hr
      unfold decT decM at h hr
      refine decide_eq_true ?_
      by_cases c0 : by' s i < 128
      · rw [if_pos c0] at h; simp at h
      rw [if_neg c0] at h hr
      by_cases c1 : 194 ≤ by' s i ∧ by' s i ≤ 223 ∧ decide (go s (i + 1)) = true
      · rw [if_pos c1] at h; simp at h
      rw [if_neg c1] at h hr
      by_cases c2 : 224 ≤ by' s i ∧ by' s i ≤ 239 ∧ decide (go s (i + 1)) = true ∧ decide (go s (i + 2)) = true ∧ 2048 ≤ v3 (by' s i) (by' s (i + 1)) (by' s (i + 2)) ∧ (v3 (by' s i) (by' s (i + 1)) (by' s (i + 2)) < 55296 ∨ 57343 < v3 (by' s i) (by' s (i + 1)) (by' s (i + 2)))
      · rw [if_pos c2] at hr
        obtain ⟨h1, h2, h3, h4, h5, h6⟩ := c2
        have h3 := of_decide_eq_true h3
        have h4 := of_decide_eq_true h4
        have e : v3 (by' s i) (by' s (i + 1)) (by' s (i + 2)) = 65533 := by simp only at hr; omega
        unfold v3 at e
        have q3 := h3.2
        have q4 := h4.2
        exact ⟨h4.1, by omega, by omega, by omega⟩
      rw [if_neg c2] at h
      split at h <;> simp at h
    · omega
    · exact h
theorem lo_ff (s : ByteArray) (i : Nat) : lo s i = (decide (rn s i = 65533) && !hasFF s i) := by
  by_cases hr : rn s i = 65533
  · have hr' : (Utf8.decode s i).1 = 65533 := by
      unfold rn at hr
      omega
    rcases ff_iff s i hr with ⟨h, h'⟩ | ⟨h, h'⟩
    · unfold wd at h'
      simp [lo, h, h', hr']
    · unfold wd at h'
      simp [lo, h, h', hr', hr]
  · have hr' : (Utf8.decode s i).1 ≠ 65533 := by
      unfold rn at hr
      omega
    simp [lo, hr, hr']
end Go.Ear
namespace Go.Proofs.YtkamjhhaghkdmaaDoor
open Go.RowKit Go.Ear Go.Proofs.YtkamjhhaghkdmaaDoorW.PrintWords Go.Proofs.YtkamjhhaghkdmaaDoor.PScriptLines
set_option linter.unusedSimpArgs false
set_option linter.unusedVariables false
set_option maxRecDepth 100000
theorem runeLen_eq (k : Nat) (s : ByteArray) (i : Nat) (h : lo s i = false) : utf8_RuneLen.f (k + 3) (rn s i) = some (wd s i : Int) := by
  have hb := rn_bound s i
  unfold utf8_RuneLen.f
  rcases dec_cases s i with ⟨h1, h2⟩ | ⟨h1, h2, h3⟩ | ⟨h1, h2, h3, h4⟩ | ⟨h1, h2, h3⟩ | ⟨h1, h2⟩
  · rw [h1, if_neg (by omega), if_pos (by omega)]
    rfl
  · rw [h1, if_neg (by omega), if_neg (by omega), if_pos (by omega)]
    rfl
  · rw [h1, if_neg (by omega), if_neg (by omega), if_neg (by omega)]
    by_cases c : 55296 ≤ rn s i
    · rw [if_pos c, decide_eq_false (by omega), utf8_RuneLen.j0, if_neg Bool.false_ne_true, if_pos (by omega)]
      rfl
    · rw [if_neg c, utf8_RuneLen.j0, if_neg Bool.false_ne_true, if_pos (by omega)]
      rfl
  · rw [h1, if_neg (by omega), if_neg (by omega), if_neg (by omega), if_pos (by omega), decide_eq_false (by omega), utf8_RuneLen.j0, if_neg Bool.false_ne_true, if_neg (by omega), if_pos (by omega)]
    rfl
  · exfalso
    have : lo s i = true := by
      unfold rn wd at *
      refine decide_eq_true ⟨by omega, h1⟩
    rw [h] at this
    cases this
theorem list3 (l : List UInt8) (a b c : UInt8) : (l.take 3 = [a, b, c]) ↔ (l[0]? = some a ∧ l[1]? = some b ∧ l[2]? = some c) := by
  match l with
  | [] => simp
  | [x] => simp
  | [x, y] => simp
  | x :: y :: z :: r => simp
theorem hp_eq (s : ByteArray) (i : Nat) (hi : i < s.size) : strings_HasPrefix.f (s.extract (i : Int).toNat s.size) (⟨#[239, 191, 189]⟩ : ByteArray) = some (hasFF s i) := by
  unfold strings_HasPrefix.f stringslite_HasPrefix.f
  have e3 : (⟨#[239, 191, 189]⟩ : ByteArray).size = 3 := rfl
  rw [e3, Int.toNat_natCast]
  have hsz : (s.extract i s.size).size = s.size - i := by
    rw [ByteArray.size_extract]
    omega
  rw [hsz]
  have hlen : s.data.toList.length = s.size := by rw [Array.length_toList]; rfl
  by_cases h3 : i + 2 < s.size
  · rw [if_pos (by omega), if_pos (by omega), if_pos (by omega), Option.bind_some]
    refine congrArg some (Bool.eq_iff_iff.2 ?_)
    rw [beq_iff_eq, Lib.toList_data, Lib.toList_data]
    have e : ((s.extract i s.size).extract 0 ((3 : Nat) : Int).toNat).data.toList = (s.data.toList.drop i).take 3 := by
      rw [ByteArray.data_extract, Array.toList_extract, ByteArray.data_extract, Array.toList_extract]
      rw [List.extract_eq_take_drop, List.extract_eq_take_drop, List.drop_zero]
      rw [List.take_of_length_le (l := s.data.toList.drop i) (by rw [List.length_drop]; omega)]
      rfl
    rw [e, show (⟨#[239, 191, 189]⟩ : ByteArray).data.toList = [239, 191, 189] from rfl, list3]
    have hg : ∀ j, i + j < s.size → (s.data.toList.drop i)[j]? = some (UInt8.ofNat (by' s (i + j))) := fun j hj => by
      rw [List.getElem?_drop, List.getElem?_eq_getElem (by omega)]
      have e : s.get! (i + j) = s[i + j] := by
        rw [ByteArray.get!]
        simp [hj]
        rfl
      unfold by'
      rw [e]
      simp
      rfl
    have b0 := by_lt s i
    have b1 := by_lt s (i + 1)
    have b2 := by_lt s (i + 2)
    have inj : ∀ a b : Nat, a < 256 → b < 256 → (UInt8.ofNat a = UInt8.ofNat b ↔ a = b) := fun a b ha hb => by
      constructor
      · intro h
        have := congrArg UInt8.toNat h
        simpa [Nat.mod_eq_of_lt ha, Nat.mod_eq_of_lt hb] using this
      · intro h; rw [h]
    rw [hg 0 (by omega), hg 1 (by omega), hg 2 (by omega)]
    have k1 := inj (by' s (i + 0)) 239 b0 (by omega)
    have k2 := inj (by' s (i + 1)) 191 b1 (by omega)
    have k3 := inj (by' s (i + 2)) 189 b2 (by omega)
    unfold hasFF
    rw [decide_eq_true_eq]
    constructor
    · rintro ⟨h1, h2, h4⟩
      exact ⟨h3, k1.1 (Option.some.inj h1), k2.1 (Option.some.inj h2), k3.1 (Option.some.inj h4)⟩
    · rintro ⟨_, h1, h2, h4⟩
      exact ⟨congrArg some (k1.2 h1), congrArg some (k2.2 h2), congrArg some (k3.2 h4)⟩
  · have : hasFF s i = false := by
      unfold hasFF
      exact decide_eq_false (fun h => h3 h.1)
    rw [if_neg (by omega), this]
    rfl
theorem char_eq (k : Nat) (s : ByteArray) (i : Nat) (hi : i < s.size) : glyph_char.f (k + 3) s (i : Int) (rn s i) = some (rn s i, (i : Int), (wd s i : Int), lo s i) := by
  unfold glyph_char.f glyph_size.f
  by_cases hr : rn s i = 65533
  · rw [if_pos hr, if_pos (by omega), if_pos (by omega), hp_eq s i hi, Option.bind_some]
    have hl := lo_ff s i
    rw [hr] at hl
    rcases ff_iff s i hr with ⟨h, h'⟩ | ⟨h, h'⟩
    · have hlo : lo s i = false := by rw [hl, h]; rfl
      have := runeLen_eq k s i hlo
      rw [if_pos h, this, hlo]
      rfl
    · have hlo : lo s i = true := by rw [hl, h]; rfl
      rw [h, if_neg Bool.false_ne_true, hlo, h']
      rfl
  · have hlo : lo s i = false := by rw [lo_ff]; simp [hr]
    have := runeLen_eq k s i hlo
    rw [if_neg hr, this, hlo]
    rfl
end Go.Proofs.YtkamjhhaghkdmaaDoor
namespace Go.Proofs.YtkamjhhaghkdmaaDoor
open Go.RowKit Go.Ear Go.Proofs.YtkamjhhaghkdmaaDoorW.PrintWords Go.Proofs.YtkamjhhaghkdmaaDoor.PScriptLines
set_option maxHeartbeats 4000000
set_option maxRecDepth 100000
set_option linter.unusedSimpArgs false
set_option linter.unusedVariables false
theorem char_any (s : ByteArray) (i : Nat) (w : World) (hi : i < s.size) : Calls Tryd.prog 39 #[.string s, .int .i64 i, .int .i32 (rn s i)] w (Gr (.agg #[.int .i32 (rn s i), .int .i64 i, .int .i64 (wd s i), .bool (lo s i)]) w) := by
  refine (glyph_char.calls 3 s i (rn s i) _ _ _ _ w (char_eq 0 s i hi)).mono ?_
  rintro e w' ⟨rfl, hb⟩
  exact gr_mk rfl (Chg.of_below (by first | exact hb | exact hb.below))
theorem first_any (s : ByteArray) (w : World) (hi : 0 < s.size) : Calls Tryd.prog 21 #[.string s] w (Gr (.agg #[.int .i32 (rn s 0), .int .i64 0, .int .i64 (wd s 0), .bool (lo s 0)]) w) := by
  have hch := char_any s 0
  rw [show ((0 : Nat) : Int) = 0 from rfl] at hch
  have HS := Lib.hid hi
  go_enter Tryd.func21, Tryd.ntmps21
  go_wp2
  go_loopw [] (fun wr => wr = (w.alloc (.cells #[.int .i32 0, .int .i64 0, .int .i64 0, .bool false] 68)).iter s 0) (fun wr => 0)
  case atStart => rfl
  case round =>
    subst hrel
    have hit := World.iter_heap (w.alloc (.cells #[.int .i32 0, .int .i64 0, .int .i64 0, .bool false] 68)) s 0
    have hsz : (w.alloc (.cells #[.int .i32 0, .int .i64 0, .int .i64 0, .bool false] 68)).heap.size = w.heap.size + 1 := by simp
    rw [hsz] at hit
    have hnx : ∀ ty, (Instr.next (.pointer (some ⟨w.heap.size + 1, 0, none⟩)) true ty).run Tryd.prog ((w.alloc (.cells #[.int .i32 0, .int .i64 0, .int .i64 0, .bool false] 68)).iter s 0) = _ := fun ty => Lib.run_next_any_at _ (w.heap.size + 1) s 0 ty hit hi
    simp only [← show rn s 0 = ((Utf8.decode s 0).1 : Int) from rfl, ← show wd s 0 = (Utf8.decode s 0).2 from rfl] at hnx
    obtain ⟨W2, hW2⟩ : ∃ W2, World.iterAt ((w.alloc (.cells #[.int .i32 0, .int .i64 0, .int .i64 0, .bool false] 68)).iter s 0) (w.heap.size + 1) s (0 + wd s 0) = W2 := ⟨_, rfl⟩
    have hcw : Chg Noth w W2 := by rw [← hW2]; exact iterAt_chg (chg_alloc (chg_alloc (Chg.refl _ _) _) _) (by omega) _ _
    have hb : W2.heap[w.heap.size]? = some (.cells #[.int .i32 0, .int .i64 0, .int .i64 0, .bool false] 68 (0, 0)) := by
      rw [← hW2]
      refine (Lib.iterAt_other _ _ _ _ _ (by omega)).trans ?_
      exact (Below.heap_alloc _ _ _ (by simp)).trans (heap_alloc_new _ _)
    rw [hW2] at hnx
    have jz : Old w.heap.size W2 := ⟨(Array.getElem?_eq_some_iff.1 hb).1⟩
    have z0 : W2.cell? ⟨w.heap.size, 0, none⟩ = some (.int .i32 0) := (cell_of_row _ _ _ _ _ _ hb).trans rfl
    have z1 : W2.cell? ⟨w.heap.size, 1, none⟩ = some (.int .i64 0) := (cell_of_row _ _ _ _ _ _ hb).trans rfl
    have z2 : W2.cell? ⟨w.heap.size, 2, none⟩ = some (.int .i64 0) := (cell_of_row _ _ _ _ _ _ hb).trans rfl
    have z3 : W2.cell? ⟨w.heap.size, 3, none⟩ = some (.bool false) := (cell_of_row _ _ _ _ _ _ hb).trans rfl
    have k0 : HasCell W2 w.heap.size 0 := ⟨by rw [z0]; rfl⟩
    have k1 : HasCell W2 w.heap.size 1 := ⟨by rw [z1]; rfl⟩
    have k2 : HasCell W2 w.heap.size 2 := ⟨by rw [z2]; rfl⟩
    have k3 : HasCell W2 w.heap.size 3 := ⟨by rw [z3]; rfl⟩
    have fz : ∀ i, W2.frozen? ⟨w.heap.size, i, none⟩ = false := fun i => frozen_of_row _ _ _ _ _ hb
    have HC := Lib.hid hcw
    clear hcw hb hit hsz hW2
    have hch := fun W => hch W HS.out
    generalize rn s 0 = r at *
    generalize wd s 0 = n at *
    generalize lo s 0 = b at *
    go_wp2_with (go_at_call 39; refine (hch _).mono ?_; rintro e w' ⟨rfl, g, rfl⟩)
    refine bodyPost_ret (v := .agg #[.int .i32 r, .int .i64 0, .int .i64 n, .bool b]) (by simp [results, Tryd.results21, go_sem, *]) rfl ?_
    exact gr_mk rfl (by repeat (with_reducible first | exact Chg.refl _ _ | exact HC.out | assumption | refine chg_m ?_ _ | refine chg_g ?_ _ | refine chg_alloc ?_ _ | refine chg_drew ?_ | refine chg_drewN ?_ _ | refine chg_set ?_ _ _ _))
theorem id_any (t : ByteArray) (A : Option Addr) (c : Nat) (m : Option Nat) (l : List Int) (r : Int) (w : World) (h : RosterIs w (.agg #[.string t, .slice A l.length c, .map m]) l) :
    Calls Tryd.prog 65 #[.agg #[.string t, .slice A l.length c, .map m], .int .i32 r] w (Gr (.tuple (if r ∈ l then #[.int .i64 (fnd l r 0), .int .i64 0] else #[.int .i64 0, .int .i64 41])) w) := by
  obtain ⟨t', A', c', m', e, _, _, h4⟩ := h
  simp only [Value.agg.injEq, Array.mk.injEq, List.cons.injEq, Value.string.injEq, Value.slice.injEq, and_true, true_and] at e
  obtain ⟨rfl, ⟨rfl, rfl⟩, rfl⟩ := e
  have hml := mlook_ents l r 0
  have key : ∃ b, (∀ W, Chg Noth w W → (Instr.lookup 42 (.map m) (.int .i32 r) true).run Tryd.prog W = .ok (.tuple #[.int .i64 (if r ∈ l then fnd l r 0 else 0), .bool b]) W) ∧ b = decide (r ∈ l) := by
    rcases h4 with ⟨rfl, hm⟩ | ⟨b, hb, hM⟩
    · cases hm
      exact ⟨false, fun W _ => by kernel_rfl, by simp⟩
    · cases hb
      by_cases hm : r ∈ l
      · rw [if_pos hm] at hml
        refine ⟨true, fun W hW => ?_, by simp [hm]⟩
        rw [if_pos hm]
        exact (hM.grow hW (fun e => e)).lookup_some Tryd.underlying42 Tryd.underlying21 r _ hml
      · rw [if_neg hm] at hml
        refine ⟨false, fun W hW => ?_, by simp [hm]⟩
        rw [if_neg hm]
        exact (hM.grow hW (fun e => e)).lookup_none Tryd.underlying42 Tryd.underlying21 r (by kernel_rfl) hml
  obtain ⟨b, hk, hb⟩ := key
  have hlk := hk (w.alloc (.cells #[.string t, .slice A l.length c, .map m] 44)) (by repeat (with_reducible first | exact Chg.refl _ _ | assumption | refine chg_m ?_ _ | refine chg_g ?_ _ | refine chg_alloc ?_ _ | refine chg_drew ?_ | refine chg_drewN ?_ _ | refine chg_set ?_ _ _ _))
  clear hk hml h4
  by_cases hm : r ∈ l
  · obtain rfl : b = true := by rw [hb]; simp [hm]
    rw [if_pos hm] at hlk ⊢
    generalize fnd l r 0 = i at *
    generalize l.length = n at *
    clear hb hm
    go_enter Tryd.func65, Tryd.ntmps65
    go_wp2
    go_ret2
    exact gr_mk rfl (by repeat (with_reducible first | exact Chg.refl _ _ | assumption | refine chg_m ?_ _ | refine chg_g ?_ _ | refine chg_alloc ?_ _ | refine chg_drew ?_ | refine chg_drewN ?_ _ | refine chg_set ?_ _ _ _))
  · obtain rfl : b = false := by rw [hb]; simp [hm]
    rw [if_neg hm] at hlk ⊢
    generalize l.length = n at *
    clear hb hm
    go_enter Tryd.func65, Tryd.ntmps65
    go_wp2
    go_ret2
    exact gr_mk rfl (by repeat (with_reducible first | exact Chg.refl _ _ | assumption | refine chg_m ?_ _ | refine chg_g ?_ _ | refine chg_alloc ?_ _ | refine chg_drew ?_ | refine chg_drewN ?_ _ | refine chg_set ?_ _ _ _))
end Go.Proofs.YtkamjhhaghkdmaaDoor
namespace Go.Ear
def isDig (c : UInt8) : Prop := 48 ≤ c.toNat ∧ c.toNat ≤ 57
instance (c : UInt8) : Decidable (isDig c) := by unfold isDig; infer_instance
/-- What digits spell, behind what has been read. -/
def dval : List UInt8 → Nat → Option Nat
  | [], acc => some acc
  | c :: r, acc => if isDig c then dval r (acc * 10 + (c.toNat - 48)) else none
theorem dval_snoc : ∀ (l : List UInt8) (c : UInt8) (acc : Nat), dval (l ++ [c]) acc = (dval l acc).bind fun v => if isDig c then some (v * 10 + (c.toNat - 48)) else none
  | [], c, acc => by simp [dval]
  | a :: l, c, acc => by
    simp only [List.cons_append, dval]
    split
    · exact dval_snoc l c _
    · rfl
theorem dig_byte (u : Nat) (h : u < 10) : (UInt8.ofNat (48 + u)).toNat = 48 + u := by
  rw [UInt8.toNat_ofNat']
  omega
theorem dval_dec (u : Nat) : dval (Lib.decDigits u) 0 = some u := by
  induction u using Nat.strongRecOn with
  | ind u ih =>
    by_cases h : u < 10
    · rw [Lib.decDigits_one h]
      have := dig_byte u h
      simp only [dval, isDig, this]
      rw [if_pos (by omega)]
      simp
    · have e : Lib.decDigits u = Lib.decDigits (u / 10) ++ [UInt8.ofNat (48 + u % 10)] := by
        conv => lhs; unfold Lib.decDigits
        rw [dif_neg h]
      have hb := dig_byte (u % 10) (Nat.mod_lt _ (by omega))
      rw [e, dval_snoc, ih (u / 10) (by omega), Option.bind_some]
      simp only [isDig, hb]
      rw [if_pos (by have := Nat.mod_lt u (show 0 < 10 by omega); omega)]
      congr 1
      omega
theorem dec_ne (u : Nat) : Lib.decDigits u ≠ [] := by
  unfold Lib.decDigits
  split <;> simp
/-- Digits without a needless nought. -/
def canon (l : List UInt8) : Prop := l ≠ [] ∧ (l.head? ≠ some 48 ∨ l.length = 1)
instance (l : List UInt8) : Decidable (canon l) := by unfold canon; infer_instance
theorem head_snoc {l : List UInt8} {c : UInt8} (h : l ≠ []) : (l ++ [c]).head? = l.head? := by
  cases l with
  | nil => exact absurd rfl h
  | cons a l => rfl
theorem dec_head (u : Nat) (h : 1 ≤ u) : (Lib.decDigits u).head? ≠ some 48 := by
  induction u using Nat.strongRecOn with
  | ind u ih =>
    by_cases h10 : u < 10
    · rw [Lib.decDigits_one h10]
      simp only [List.head?_cons, ne_eq, Option.some.injEq]
      intro e
      have := dig_byte u h10
      rw [e] at this
      simp at this
      omega
    · have e : Lib.decDigits u = Lib.decDigits (u / 10) ++ [UInt8.ofNat (48 + u % 10)] := by
        conv => lhs; unfold Lib.decDigits
        rw [dif_neg h10]
      rw [e, head_snoc (dec_ne _)]
      exact ih (u / 10) (by omega) (by omega)
theorem dec_canon (u : Nat) : canon (Lib.decDigits u) := by
  refine ⟨dec_ne u, ?_⟩
  by_cases h : u = 0
  · subst h
    right
    rw [Lib.decDigits_one (by omega)]
    rfl
  · exact .inl (dec_head u (by omega))
theorem byte_ofNat (c : UInt8) : UInt8.ofNat c.toNat = c := by simp
theorem canon_dec (n : Nat) : ∀ (l : List UInt8), l.length = n → ∀ v, canon l → dval l 0 = some v → Lib.decDigits v = l := by
  induction n with
  | zero =>
    intro l hl v hc
    exact absurd (List.length_eq_zero_iff.1 hl) hc.1
  | succ n ih =>
    intro l hl v hc hv
    obtain ⟨l', c, rfl⟩ : ∃ l' c, l = l' ++ [c] := ⟨l.dropLast, l.getLast hc.1, (List.dropLast_concat_getLast hc.1).symm⟩
    have hl' : l'.length = n := by simpa using hl
    rw [dval_snoc] at hv
    by_cases h0 : l' = []
    · subst h0
      simp only [dval, Option.bind_some] at hv
      by_cases hd : isDig c
      · rw [if_pos hd] at hv
        simp at hv
        have hd' := hd
        unfold isDig at hd'
        rw [← hv, Lib.decDigits_one (by omega), show 48 + (c.toNat - 48) = c.toNat by omega, byte_ofNat]
        rfl
      · rw [if_neg hd] at hv
        cases hv
    · cases hv' : dval l' 0 with
      | none => rw [hv'] at hv; cases hv
      | some v' =>
        rw [hv', Option.bind_some] at hv
        by_cases hd : isDig c
        · rw [if_pos hd] at hv
          simp at hv
          have hd' := hd
          unfold isDig at hd'
          have hh : l'.head? ≠ some 48 := by
            rcases hc.2 with h | h
            · rwa [head_snoc h0] at h
            · simp at h
              exact absurd h h0
          have hdec := ih l' hl' v' ⟨h0, .inl hh⟩ hv'
          have hv1 : 1 ≤ v' := by
            rcases Nat.eq_zero_or_pos v' with h | h
            · subst h
              rw [Lib.decDigits_one (by omega)] at hdec
              rw [← hdec] at hh
              simp at hh
            · exact h
          have e : Lib.decDigits v = Lib.decDigits (v / 10) ++ [UInt8.ofNat (48 + v % 10)] := by
            conv => lhs; unfold Lib.decDigits
            rw [dif_neg (by omega)]
          rw [e, show v / 10 = v' by omega, hdec, show 48 + v % 10 = c.toNat by omega, byte_ofNat]
        · rw [if_neg hd] at hv
          cases hv
theorem dval_ge : ∀ (l : List UInt8) (acc v : Nat), dval l acc = some v → acc ≤ v
  | [], acc, v, h => by simp [dval] at h; omega
  | c :: r, acc, v, h => by
    simp only [dval] at h
    split at h
    · have := dval_ge r _ v h
      omega
    · cases h
/-- A tag's numeral. -/
def num (l : List UInt8) : Option Nat := if canon l then (dval l 0).bind fun v => if v ≤ 1048576 then some v else none else none
theorem num_dec (t : Nat) (h : t ≤ 1048576) : num (Lib.decDigits t) = some t := by
  unfold num
  rw [if_pos (dec_canon t), dval_dec]
  simp [h]
theorem num_some {l : List UInt8} {t : Nat} (h : num l = some t) : t ≤ 1048576 ∧ l = Lib.decDigits t := by
  unfold num at h
  split at h
  · rename_i hc
    cases hd : dval l 0 with
    | none => rw [hd] at h; cases h
    | some v =>
      rw [hd, Option.bind_some] at h
      split at h
      · simp at h
        subst h
        exact ⟨by assumption, (canon_dec _ l rfl _ hc hd).symm⟩
      · cases h
  · cases h
theorem parse_dval : ∀ (l : List UInt8) (acc v : Nat), dval l acc = some v → v ≤ 1000000000000 → Lib.parseUint10 acc l = .ok v
  | [], acc, v, h, _ => by
    simp [dval] at h
    simp [Lib.parseUint10, h]
  | c :: r, acc, v, h, hv => by
    have h2 := h
    simp only [dval] at h
    by_cases hd : isDig c
    · rw [if_pos hd] at h
      have hg := dval_ge r _ v h
      have hd' := hd
      unfold isDig at hd'
      simp only [Lib.parseUint10]
      rw [if_pos hd', if_neg (by omega), if_neg (by omega)]
      exact parse_dval r _ v h hv
    · rw [if_neg hd] at h
      cases h
theorem atoi_dec (t : Nat) (h : t ≤ 1000000000000) : Lib.atoiAll (Lib.decDigits t) = .ok (t : Int) := by
  have h1 := parse_dval _ 0 t (dval_dec t) h
  have h2 := dval_dec t
  have h3 := dec_ne t
  generalize Lib.decDigits t = l at *
  cases l with
  | nil => exact absurd rfl h3
  | cons c r =>
    have hd : isDig c := by
      simp only [dval] at h2
      split at h2
      · assumption
      · cases h2
    unfold isDig at hd
    have hm : Lib.parseMag (c :: r) = .ok t := by
      unfold Lib.parseMag
      rw [if_neg (by simp), h1]
    rw [Lib.atoiAll_plain c r (by omega) (by omega), hm]
    simp only [Lib.signless]
    rw [if_neg (by omega)]
/-- What Read answers: node, tag, kind, error. -/
def rdM (l : List UInt8) : Option (Int × Nat) := match l with
  | [] => none
  | m :: rest => if m = 33 then (num rest).map fun t => (1, t) else if m = 63 then (num rest).map fun t => (2, t) else none
def rdS (l : List Int) (s : ByteArray) : Int × Int × Int × Int :=
  if 65536 < s.size then (0, 0, 0, 2)
  else if s.size = 0 then (0, 0, 0, 80)
  else if lo s 0 = true ∨ rn s 0 ∉ l then (0, 0, 0, 80)
  else match rdM (s.data.toList.drop (wd s 0)) with
    | none => (0, 0, 0, 80)
    | some (k, t) => (fnd l (rn s 0) 0, (t : Int), k, 0)
end Go.Ear
