/- Escape, whole. A quoted text's rest, plain. A region that draws its order: a head that only reads and calls quietly, then one operation that may do anything, then a rest that is quiet again. -/
import Derived.Test.YtkamjhhaghkdmaaDoorH24
import Derived.Test.YtkamjhhaghkdmaaDoorH25
import Derived.Test.YtkamjhhaghkdmaaDoorH26
import Derived.Test.YtkamjhhaghkdmaaDoorH22
import Derived.Test.YtkamjhhaghkdmaaDoorH15
import Derived.StillTail
namespace Go.Proofs.YtkamjhhaghkdmaaDoor
open Go.RowKit Go.Ear Go.Proofs.YtkamjhhaghkdmaaDoorW.PrintWords Go.Proofs.YtkamjhhaghkdmaaDoor.PScriptLines
set_option linter.unusedSimpArgs false
set_option linter.unusedVariables false
theorem escape_v (s : ByteArray) (w : World) : Calls Tryd.prog 41 #[.string s] w (Gc (escRes s) w) := by
  by_cases q110 : atB s 1 = 110
  · exact esc_110 s w q110
  by_cases q116 : atB s 1 = 116
  · exact esc_116 s w q116
  by_cases q114 : atB s 1 = 114
  · exact esc_114 s w q114
  by_cases q34 : atB s 1 = 34
  · exact esc_34 s w q34
  by_cases q92 : atB s 1 = 92
  · exact esc_92 s w q92
  by_cases q120 : atB s 1 = 120
  · by_cases n2 : hexV (atB s 2) < 0
    · exact esc_x1 s w q120 _ _ _ _ rfl rfl rfl rfl n2
    · by_cases n3 : hexV (atB s 3) < 0
      · exact esc_x2 s w q120 _ _ _ _ rfl rfl rfl rfl n2 n3
      · exact esc_x3 s w q120 _ _ _ _ rfl rfl rfl rfl n2 n3
  by_cases q117 : atB s 1 = 117
  · by_cases h2 : atB s 2 = 123
    · by_cases n3 : hexV (atB s 3) < 0
      · exact esc_u2 s w q117 h2 _ _ rfl rfl n3
      · exact esc_u3 s w q117 h2 _ _ rfl rfl n3
    · exact esc_u1 s w q117 _ rfl h2
  exact esc_other s w _ rfl q110 q116 q114 q34 q92 q120 q117
end Go.Proofs.YtkamjhhaghkdmaaDoor
namespace Go.Ear
set_option linter.unusedSimpArgs false
set_option linter.unusedVariables false
theorem rn_low (s : ByteArray) (i : Nat) (h : rn s i < 128) : wd s i = 1 ∧ rn s i = by' s i ∧ by' s i < 128 := by
  rcases dec_full s i with ⟨a, b, c⟩ | ⟨a, b, c, d, e⟩ | ⟨a, b, c, d, e, f, g, _⟩ | ⟨a, b, c, d, e, f, g, k, _⟩ | ⟨a, b, c⟩
  · exact ⟨a, b, c⟩
  · rw [e] at h
    have := d.2
    omega
  · rw [f] at h; omega
  · rw [g] at h; omega
  · omega
theorem by_low (s : ByteArray) (i : Nat) (h : by' s i < 128) : wd s i = 1 ∧ rn s i = by' s i ∧ lo s i = false := by
  have hr : wd s i = 1 ∧ rn s i = by' s i := by
    unfold wd rn
    rw [decode_eq]
    unfold decT decM
    rw [if_pos h]
    exact ⟨rfl, rfl⟩
  refine ⟨hr.1, hr.2, ?_⟩
  have : (Utf8.decode s i).1 ≠ 65533 := by
    have := hr.2
    unfold rn at this
    omega
  unfold lo
  simp [this]
theorem by_mid (s : ByteArray) (a b k : Nat) (hb : b ≤ s.size) (h : a + k < b) : by' (s.extract a b) k = by' s (a + k) := by
  have hk : k < (s.extract a b).size := by rw [ByteArray.size_extract]; omega
  have h1 := by_in (s.extract a b) hk
  have h2 := by_in s (i := a + k) (by omega)
  have h3 : (s.extract a b).data.toList[k]? = s.data.toList[a + k]? := by
    rw [ByteArray.data_extract, Array.toList_extract, List.extract_eq_take_drop, List.getElem?_take_of_lt (by omega), List.getElem?_drop]
  rw [h3, h2] at h1
  have := Option.some.inj h1
  have e := congrArg UInt8.toNat this
  rw [ofNat_toNat (by_lt _ _), ofNat_toNat (by_lt _ _)] at e
  exact e.symm
theorem runes_low (t : ByteArray) (h : ∀ j, j < t.size → by' t j < 128) : ∀ (m p : Nat), t.size - p = m → (runes t p).length = t.size - p := by
  intro m
  induction m with
  | zero =>
    intro p hp
    rw [runes_end (by omega), List.length_nil, hp]
  | succ m ih =>
    intro p hp
    rw [runes_step (by omega), List.length_cons, (by_low t p (h p (by omega))).1, ih (p + 1) (by omega)]
    omega
theorem cnt_low (t : ByteArray) (h : ∀ j, j < t.size → by' t j < 128) : cnt t = t.size := runes_low t h _ 0 rfl
/-- An escape's characters are its bytes. -/
theorem cnt_esc (s : ByteArray) (i : Nat) (h0 : atB s i = 92) {b : List UInt8} {n : Nat} (h : esc s i = some (b, n)) : i + n ≤ s.size ∧ 2 ≤ n ∧ n ≤ 11 ∧ cnt (s.extract i (i + n)) = n := by
  obtain ⟨a, c, d⟩ := esc_low s i h0 h
  have hl : i + n ≤ s.size := by
    have := (d (i + n - 1) (by omega) (by omega)).1
    omega
  have hs : (s.extract i (i + n)).size = n := by rw [ByteArray.size_extract]; omega
  refine ⟨hl, a, c, ?_⟩
  rw [cnt_low, hs]
  intro j hj
  rw [hs] at hj
  rw [by_mid s i (i + n) j hl (by omega)]
  exact (d (i + j) (by omega) (by omega)).2
theorem at_rn {s : ByteArray} {i : Nat} (hi : i < s.size) {c : Nat} (hc : c < 128) (h : rn s i = c) : atB s i = c ∧ wd s i = 1 := by
  have := rn_low s i (by omega)
  unfold atB
  rw [if_pos hi]
  exact ⟨by omega, this.1⟩
theorem quoF_more (s : ByteArray) : ∀ (f g p col : Nat), s.size ≤ p + f → s.size ≤ p + g → quoF s f p col = quoF s g p col
  | 0, 0, _, _, _, _ => rfl
  | 0, g + 1, p, col, h, _ => by simp only [quoF]; rw [if_neg (by omega)]
  | f + 1, 0, p, col, _, h => by simp only [quoF]; rw [if_neg (by omega)]
  | f + 1, g + 1, p, col, h, h' => by
    have hw := (wd_pos s p).1
    simp only [quoF]
    by_cases hp : p < s.size
    · rw [if_pos hp, if_pos hp]
      by_cases h1 : rn s p = 34
      · rw [if_pos h1, if_pos h1]
      rw [if_neg h1, if_neg h1]
      by_cases h2 : rn s p = 92
      · rw [if_pos h2, if_pos h2]
        cases he : esc s p with
        | none => rfl
        | some x =>
          obtain ⟨b, n⟩ := x
          have := cnt_esc s p (at_rn hp (c := 92) (by omega) h2).1 he
          simp only
          exact quoF_more s f g _ _ (by omega) (by omega)
      rw [if_neg h2, if_neg h2]
      by_cases h3 : stands s p = true
      · rw [if_pos h3, if_pos h3]
        exact quoF_more s f g _ _ (by omega) (by omega)
      · rw [if_neg h3, if_neg h3]
    · rw [if_neg hp, if_neg hp]
/-- A quoted text's rest. -/
def quo (s : ByteArray) (p col : Nat) : Except (Int × Nat) (Nat × Nat) := quoF s (s.size - p) p col
theorem quo_end {s : ByteArray} {p col : Nat} (h : ¬ p < s.size) : quo s p col = .error (11, col) := by
  unfold quo
  rw [show s.size - p = 0 by omega]
  rfl
theorem quo_step {s : ByteArray} {p col : Nat} (hp : p < s.size) : quo s p col = if rn s p = 34 then .ok (p + 1, col + 1) else if rn s p = 92 then (match esc s p with
        | none => .error (12, col)
        | some (_, n) => quo s (p + n) (col + n))
      else if stands s p = true then quo s (p + wd s p) (col + 1) else .error (10, col) := by
  have hw := (wd_pos s p).1
  unfold quo
  obtain ⟨f, hf⟩ : ∃ f, s.size - p = f + 1 := ⟨s.size - p - 1, by omega⟩
  rw [hf]
  simp only [quoF]
  rw [if_pos hp]
  by_cases h1 : rn s p = 34
  · rw [if_pos h1, if_pos h1]
  rw [if_neg h1, if_neg h1]
  by_cases h2 : rn s p = 92
  · rw [if_pos h2, if_pos h2]
    cases he : esc s p with
    | none => rfl
    | some x =>
      obtain ⟨b, n⟩ := x
      have := cnt_esc s p (at_rn hp (c := 92) (by omega) h2).1 he
      simp only
      exact quoF_more s _ _ _ _ (by omega) (by omega)
  rw [if_neg h2, if_neg h2]
  by_cases h3 : stands s p = true
  · rw [if_pos h3, if_pos h3]
    exact quoF_more s _ _ _ _ (by omega) (by omega)
  · rw [if_neg h3, if_neg h3]
/-- It ends within the text, and the column goes no faster than the place. -/
theorem quo_le (s : ByteArray) : ∀ (m p col : Nat), s.size - p = m → p ≤ s.size → (∀ q c, quo s p col = .ok (q, c) → p < q ∧ q ≤ s.size ∧ col < c ∧ c ≤ col + (q - p)) ∧ ∀ e c, quo s p col = .error (e, c) → col ≤ c ∧ c ≤ col + (s.size - p) ∧ 10 ≤ e ∧ e ≤ 12 := by
  intro m
  induction m using Nat.strongRecOn with
  | ind m ih =>
    intro p col hm hp
    by_cases h : p < s.size
    · have hw := (wd_pos s p).1
      have hwl := wd_le s p h
      rw [quo_step h]
      by_cases h1 : rn s p = 34
      · rw [if_pos h1]
        refine ⟨fun q c e => ?_, fun e c h => by cases h⟩
        simp only [Except.ok.injEq, Prod.mk.injEq] at e
        omega
      rw [if_neg h1]
      by_cases h2 : rn s p = 92
      · rw [if_pos h2]
        cases he : esc s p with
        | none =>
          refine ⟨fun q c e => (by cases e), fun e c h => ?_⟩
          simp only [Except.error.injEq, Prod.mk.injEq] at h
          omega
        | some x =>
          obtain ⟨b, n⟩ := x
          have := cnt_esc s p (at_rn h (c := 92) (by omega) h2).1 he
          have ih := ih (s.size - (p + n)) (by omega) (p + n) (col + n) rfl (by omega)
          simp only
          refine ⟨fun q c e => ?_, fun e c h => ?_⟩
          · have := ih.1 q c e; omega
          · have := ih.2 e c h; omega
      rw [if_neg h2]
      by_cases h3 : stands s p = true
      · rw [if_pos h3]
        have ih := ih (s.size - (p + wd s p)) (by omega) (p + wd s p) (col + 1) rfl (by omega)
        refine ⟨fun q c e => ?_, fun e c h => ?_⟩
        · have := ih.1 q c e; omega
        · have := ih.2 e c h; omega
      · rw [if_neg h3]
        refine ⟨fun q c e => (by cases e), fun e c h => ?_⟩
        simp only [Except.error.injEq, Prod.mk.injEq] at h
        omega
    · rw [quo_end h]
      refine ⟨fun q c e => (by cases e), fun e c h => ?_⟩
      simp only [Except.error.injEq, Prod.mk.injEq] at h
      omega
end Go.Ear
namespace Go.Ear
open Go.RowKit

section
variable {P : Program} {ops : Array Oper} {md : Region.Mode} {C : World → Prop}

/-- Whatever stands behind place n waits for something that stands at n or behind it. -/
def chain2 (md : Region.Mode) (ops : Array Oper) (n : Nat) : Bool :=
  (List.range ops.size).all fun t => decide (t ≤ n) || (List.range ops.size).any fun s => decide (n ≤ s) && (decide (s < t) && Region.waitsFor md ops t s)

theorem tail2 {n : Nat} {listed : Array Bool} (hs : Region.sinkB md ops n = true) (hc : chain2 md ops n = true) (inv : HeadInv md ops n listed) :
    ∀ (d i : Nat), n - i = d → i < n → listed.getD i true = false → ∀ t, n ≤ t → t ∉ Region.ready md ops listed := by
  intro d
  induction d using Nat.strongRecOn with
  | _ d ih =>
    intro i hd hi hun t ht hr
    obtain ⟨_, ot, hot, hall⟩ := mem_ready.1 hr
    have hlt : t < ops.size := (Array.getElem?_eq_some_iff.1 hot).1
    rcases Nat.lt_or_ge n t with hgt | hle
    · have h1 := List.all_eq_true.1 hc t (List.mem_range.2 hlt)
      simp only [Bool.or_eq_true, decide_eq_true_eq] at h1
      rcases h1 with h1 | h1
      · omega
      · obtain ⟨s, hs1, hs2⟩ := List.any_eq_true.1 h1
        simp only [Bool.and_eq_true, decide_eq_true_eq] at hs2
        obtain ⟨o', ho', e, he, hb, hon⟩ := Region.waitsFor_spec hs2.2.2
        have : o' = ot := Option.some.inj (ho'.symm.trans hot)
        subst this
        have h2 := hall e he hb
        rw [hon, getD_both (inv.tail s hs2.1 (List.mem_range.1 hs1))] at h2
        cases h2
    · obtain rfl : t = n := by omega
      obtain ⟨j, hj, hj2⟩ := List.any_eq_true.1 (List.all_eq_true.1 hs i (List.mem_range.2 hi))
      simp only [Bool.and_eq_true, decide_eq_true_eq] at hj2
      obtain ⟨oj, hoj, e, he, hb, hon⟩ := Region.waitsFor_spec hj2.2
      have hjle : j ≤ t := by have := List.mem_range.1 hj; omega
      have hno : listed.getD j false ≠ true := fun hl => by
        have h2 := inv.closed j oj hoj hl e he hb
        rw [hon, getD_both hun] at h2
        cases h2
      by_cases hjt : j = t
      · subst hjt
        have : oj = ot := Option.some.inj (hoj.symm.trans hot)
        subst this
        have h2 := hall e he hb
        rw [hon, getD_both hun] at h2
        cases h2
      · have hjs : j < listed.size := by rw [inv.size]; omega
        exact ih (t - j) (by omega) j rfl (by omega) (getD_in hjs (by simpa using hno)) t (Nat.le_refl _) hr

/-- The head, whatever its order; behind it L. -/
def headQ (P : Program) (md : Region.Mode) (ops : Array Oper) (C : World → Prop) (n : Nat) (L : Array Bool → Act → Prop) : Nat → Array Bool → Act → Prop
  | 0, listed, a => L listed a
  | f + 1, listed, a => Region.ready md ops listed ≠ [] ∧ ∀ i ∈ Region.ready md ops listed, i < n ∧ qOp P ops C i (headQ P md ops C n L f (listed.setIfInBounds i true)) a

theorem wpAny_of_headQ {n g : Nat} {L : Array Bool → Act → Prop} {Q' : Exit → Act → World → Prop} (hL : ∀ listed a w, C w → L listed a → wpAny P md ops Q' g listed a w) :
    ∀ (f : Nat) (listed : Array Bool) (a : Act) (w : World), C w → headQ P md ops C n L f listed a → wpAny P md ops Q' (f + g) listed a w
  | 0, listed, a, w, hw, h => by rw [Nat.zero_add]; exact hL _ _ _ hw h
  | f + 1, listed, a, w, hw, h => by
    rw [show f + 1 + g = (f + g) + 1 by omega]
    exact ⟨fun h0 => absurd h0 h.1, fun i hi => wpOp_of_qOp hw (fun a' w' hw' h' => wpAny_of_headQ hL f _ a' w' hw' h') (h.2 i hi).2⟩

theorem headQ_first {n i : Nat} {oi : Oper} {v : Value} {L : Array Bool → Act → Prop} (hi : ops[i]? = some oi) (hsel : ∀ (j : Nat) (o : Oper) cs b, ops[j]? = some o → o.op ≠ .select cs b)
    (hs : Region.sinkB md ops n = true) (hc : chain2 md ops n = true) (hin : i < n) (hdone : ∀ listed a, L listed a → ∀ j ∈ Region.ready md ops listed, n ≤ j) :
    ∀ (f : Nat) (listed : Array Bool) (a : Act), HeadInv md ops n listed →
      (∀ j oj, ops[j]? = some oj → j ≠ i → listed.getD j true = false → (∀ e ∈ oj.after, Region.binds md e = true → e.on ≠ i) → oi.apart ops oj = true) →
      i ∈ Region.ready md ops listed → YieldsIn P ops C oi v a →
      headQ P md ops C n L f (listed.setIfInBounds i true) (a.put oi.dst v) → headQ P md ops C n L (f + 1) listed a := by
  intro f
  induction f with
  | zero =>
    intro listed a inv _ hr hy H
    have hun := (mem_ready.1 hr).1
    refine ⟨fun h => (by rw [h] at hr; cases hr), fun j hj => ?_⟩
    have hjn : j < n := Nat.lt_of_not_le fun h => tail2 hs hc inv _ i rfl hin hun j h hj
    refine ⟨hjn, ?_⟩
    by_cases hji : j = i
    · subst hji; exact hy.qOp hi H
    · have := hdone _ _ H j (ready_mono hj hji)
      omega
  | succ f ih =>
    intro listed a inv hfree hr hy H
    have hun := (mem_ready.1 hr).1
    refine ⟨fun h => (by rw [h] at hr; cases hr), fun j hj => ?_⟩
    have hjn : j < n := Nat.lt_of_not_le fun h => tail2 hs hc inv _ i rfl hin hun j h hj
    refine ⟨hjn, ?_⟩
    by_cases hji : j = i
    · subst hji; exact hy.qOp hi H
    · have h1 := (H.2 j (ready_mono hj hji)).2
      obtain ⟨hjun, oj, hoj, hall⟩ := mem_ready.1 hj
      have hnot : ∀ e ∈ oj.after, Region.binds md e = true → e.on ≠ i := fun e he hb heq => by
        have h1 := hall e he hb
        rw [heq, getD_both hun] at h1
        cases h1
      have h2 := qOp_put hoj (hfree j oj hoj hji hjun hnot) (fun cs b => hsel i oi cs b hi) (fun cs b => hsel j oj cs b hoj) hy h1
      refine qOp_mono (fun a' h3 => ih (listed.setIfInBounds j true) a' (inv.set hj hjn) (fun k ok hk hki hun' hno => ?_) (ready_mono hr (Ne.symm hji)) h3.1 ?_) h2
      · refine hfree k ok hk hki ?_ hno
        by_cases hjk : j = k
        · subst hjk; exact hjun
        · rw [getD_set_ne true hjk] at hun'; exact hun'
      · rw [Array.setIfInBounds_comm _ _ hji]
        exact h3.2

/-- The head's own order; then place n alone; then the rest's own order. -/
def lexHead2 (md : Region.Mode) (ops : Array Oper) : Nat → Nat → Array Bool → Bool
  | 0, k, listed => decide (Region.ready md ops listed = [k]) && Region.lexFrom md ops (ops.size - (k + 1)) (k + 1) (listed.setIfInBounds k true)
  | f + 1, k, listed => (Region.ready md ops listed).contains k && (Region.free md ops listed k && lexHead2 md ops f (k + 1) (listed.setIfInBounds k true))
def lexCallB (md : Region.Mode) (ops : Array Oper) (n : Nat) : Bool :=
  Region.noSelect ops && (decide (n < ops.size) && (Region.sinkB md ops n && (chain2 md ops n && lexHead2 md ops n 0 (Array.replicate ops.size false))))

theorem headQ_lex {n : Nat} {Lq : Act → Prop} (hsel : Region.noSelect ops = true) (hs : Region.sinkB md ops n = true) (hc : chain2 md ops n = true) :
    ∀ (l : List Oper) (k : Nat) (listed : Array Bool) (a : Act), (∀ j, j < l.length → l[j]? = ops[k + j]?) → k + l.length = n → HeadInv md ops n listed →
    lexHead2 md ops l.length k listed = true → wpQuiet P ops C Lq l a →
    headQ P md ops C n (fun listed' a' => (Region.ready md ops listed' = [n] ∧ Region.lexFrom md ops (ops.size - (n + 1)) (n + 1) (listed'.setIfInBounds n true) = true) ∧ Lq a') l.length listed a
  | [], k, listed, a, _, hk, _, hB, h => by
    obtain rfl : k = n := by simpa using hk
    simp only [List.length_nil, lexHead2, Bool.and_eq_true, decide_eq_true_eq] at hB
    exact ⟨hB, h⟩
  | o :: l, k, listed, a, hl, hk, inv, hB, h => by
    have h0 : ops[k]? = some o := by simpa using (hl 0 (by simp)).symm
    simp only [List.length_cons, lexHead2, Bool.and_eq_true] at hB
    obtain ⟨hr, hf, hB'⟩ := hB
    have hkn : k < n := by simp only [List.length_cons] at hk; omega
    have hr' : k ∈ Region.ready md ops listed := by simpa using hr
    have hst : qOp P ops C k (wpQuiet P ops C Lq l) a := by unfold qOp; simp only [h0]; exact h
    obtain ⟨v, hy, hK⟩ := yieldsIn_of_qOp h0 hst
    exact headQ_first h0 (Region.noSelect_spec hsel) hs hc hkn (fun listed' a' hL j hj => by rw [hL.1.1] at hj; simp at hj; omega) l.length listed a inv (Region.free_spec h0 hf) hr' hy
      (headQ_lex hsel hs hc l (k + 1) _ _ (fun j hj => by have := hl (j + 1) (by simp; omega); simpa [Nat.add_assoc, Nat.add_comm 1 j] using this) (by simp only [List.length_cons] at hk; omega) (inv.set hr' hkn) hB' hK)
end

/-- What follows the one operation: quiet in a class of its own. -/
def RestQ (P : Program) (ops : Array Oper) (Q : Exit → Act → World → Prop) (rest : List Oper) (a : Act) (w : World) : Prop :=
  wpQuiet P ops (fun w' => ∃ g : Grows w, w' = g.w) (fun a' => ∀ g : Grows w, Q .normal a' g.w) rest a

theorem wp_region_head_call {P : Program} {id : Nat} {Q : Exit → Act → World → Prop} {a : Act} {W : World} {l : List Oper} (n : Nat) (hm : P.follows .mixedOrders = true) (hB : lexCallB .any l.toArray n = true)
    (h : wpQuiet P l.toArray (fun w' => ∃ g : Grows W, w' = g.w) (fun a' => ∀ (g : Grows W) (o : Oper), l[n]? = some o → if Region.wanted o (yielded l.toArray a'.tmps) = true then o.wp P a' g.w (RestQ P l.toArray Q (l.drop (n + 1))) Q else RestQ P l.toArray Q (l.drop (n + 1)) (a'.put o.dst undef) g.w) (l.take n) a) :
    (Code.region id l.toArray true).wp P Q a W := by
  simp only [lexCallB, Bool.and_eq_true, decide_eq_true_eq] at hB
  obtain ⟨hsel, hn, hs, hc, hlex⟩ := hB
  have hn' : n < l.length := by simpa using hn
  have htl : (l.take n).length = n := by simp; omega
  have inv0 : HeadInv .any l.toArray n (Array.replicate l.toArray.size false) :=
    ⟨by simp, fun j oj _ hl => (by rw [getD_replicate_false] at hl; cases hl), fun t _ ht => getD_in (by simpa using ht) (getD_replicate_false _ _)⟩
  have H := headQ_lex (md := .any) hsel hs hc (l.take n) 0 _ a (fun j hj => by
    have hj' : j < n := by rw [htl] at hj; exact hj
    simp [hj']) (by simpa using htl) inv0 (by rw [htl]; exact hlex) h
  refine wp_region_any hm ?_
  have hrest : ∀ (listed : Array Bool) (a' : Act) (w' : World), Region.lexFrom .any l.toArray (l.toArray.size - (n + 1)) (n + 1) listed = true → RestQ P l.toArray Q (l.drop (n + 1)) a' w' → wpAny P .any l.toArray Q (l.toArray.size - (n + 1)) listed a' w' := fun listed a' w' hB' hq => by
    have hlen : (l.drop (n + 1)).length = l.toArray.size - (n + 1) := by simp
    have h1 := wpAnyQ_lex (md := .any) hsel (l.drop (n + 1)) (n + 1) listed a' (fun j => by simp [List.getElem?_drop]) (by rw [hlen]; exact hB') hq
    rw [hlen] at h1
    exact wpAny_of_quiet (fun a2 w2 ⟨g, hg⟩ hq2 => by rw [hg]; exact hq2 g) _ _ _ _ ⟨⟨w', Chg.refl _ _⟩, rfl⟩ h1
  have key := wpAny_of_headQ (Q' := Q) (g := l.toArray.size - n) (fun listed a' w' ⟨g, hg⟩ hL => by
    subst hg
    obtain ⟨⟨hr, hlx⟩, hq⟩ := hL
    rw [show l.toArray.size - n = (l.toArray.size - (n + 1)) + 1 by omega]
    refine ⟨fun h0 => (by rw [hr] at h0; cases h0), fun i hi => ?_⟩
    rw [hr] at hi
    obtain rfl : i = n := by simpa using hi
    have ho : l.toArray[i]? = some l[i] := by simp [hn']
    unfold wpOp
    simp only [ho]
    have hq' := hq g l[i] (List.getElem?_eq_getElem hn')
    split
    · rename_i hw
      rw [if_pos hw] at hq'
      exact .inl (Oper.wp_mono (fun a2 w2 h2 => hrest _ a2 w2 hlx h2) hq')
    · rename_i hw
      rw [if_neg hw] at hq'
      exact hrest _ _ _ hlx hq') _ _ _ _ ⟨⟨W.drew, chg_drew (Chg.refl _ _)⟩, rfl⟩ H
  rw [htl, show n + (l.toArray.size - n) = l.toArray.size by omega] at key
  exact key
end Go.Ear
