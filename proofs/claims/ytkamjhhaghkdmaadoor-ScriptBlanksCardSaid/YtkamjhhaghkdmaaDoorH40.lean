/- What a quoted text says: plain. strings.Builder: the check, WriteString. -/
import Derived.Test.YtkamjhhaghkdmaaDoorH27
import Derived.Test.YtkamjhhaghkdmaaDoorH13
import Derived.Test.YtkamjhhaghkdmaaDoorH14
import Derived.Test.YtkamjhhaghkdmaaDoorH16
import Derived.Lib.RuneBytes
import Derived.Lib.Builder
import Derived.Lib.AppendStr
import Derived.Lib.Walk
import Derived.Lib.Strings
import Derived.Laws.Externs
namespace Go.Ear
set_option linter.unusedSimpArgs false
set_option linter.unusedVariables false
theorem esc_len (s : ByteArray) (i : Nat) {b : List UInt8} {n : Nat} (h : esc s i = some (b, n)) : b.length ≤ 4 := by
  have hr := fun r => (Lib.encodeRuneZ_length r).2
  unfold esc at h
  simp only at h
  split at h
  · simp only [Option.some.injEq, Prod.mk.injEq] at h; obtain ⟨rfl, _⟩ := h; simp
  split at h
  · simp only [Option.some.injEq, Prod.mk.injEq] at h; obtain ⟨rfl, _⟩ := h; simp
  split at h
  · simp only [Option.some.injEq, Prod.mk.injEq] at h; obtain ⟨rfl, _⟩ := h; simp
  split at h
  · simp only [Option.some.injEq, Prod.mk.injEq] at h; obtain ⟨rfl, _⟩ := h; simp
  split at h
  · split at h
    · simp only [Option.some.injEq, Prod.mk.injEq] at h; obtain ⟨rfl, _⟩ := h; simp
    · cases h
  split at h
  · split at h
    · split at h
      · simp only [Option.some.injEq, Prod.mk.injEq] at h
        obtain ⟨rfl, _⟩ := h
        unfold Lib.encodeRune
        rw [List.length_map]
        exact hr _
      · cases h
    · cases h
  · cases h
theorem unqF_more (s : ByteArray) : ∀ (f g p : Nat) (out : List UInt8), s.size ≤ p + f → s.size ≤ p + g → unqF s f p out = unqF s g p out
  | 0, 0, _, _, _, _ => rfl
  | 0, g + 1, p, out, h, _ => by simp only [unqF]; rw [if_neg (by omega)]
  | f + 1, 0, p, out, _, h => by simp only [unqF]; rw [if_neg (by omega)]
  | f + 1, g + 1, p, out, h, h' => by
    have hw := (wd_pos s p).1
    simp only [unqF]
    by_cases hp : p < s.size
    · rw [if_pos hp, if_pos hp]
      by_cases h1 : rn s p = 34
      · rw [if_pos h1, if_pos h1]
      rw [if_neg h1, if_neg h1]
      by_cases h2 : rn s p = 92
      · rw [if_pos h2, if_pos h2]
        cases he : esc s p with
        | none => rfl
        | some x =>
          obtain ⟨b, n⟩ := x
          have := cnt_esc s p (at_rn hp (c := 92) (by omega) h2).1 he
          simp only
          exact unqF_more s f g _ _ (by omega) (by omega)
      rw [if_neg h2, if_neg h2]
      by_cases h3 : stands s p = true
      · rw [if_pos h3, if_pos h3]
        exact unqF_more s f g _ _ (by omega) (by omega)
      · rw [if_neg h3, if_neg h3]
    · rw [if_neg hp, if_neg hp]
/-- What is said from p on. -/
def uq (s : ByteArray) (p : Nat) (out : List UInt8) : Except (Int × Nat) (List UInt8) := unqF s (s.size - p) p out
theorem uq_end {s : ByteArray} {p : Nat} (out : List UInt8) (h : ¬ p < s.size) : uq s p out = .error (11, s.size) := by
  unfold uq
  rw [show s.size - p = 0 by omega]
  rfl
theorem uq_step {s : ByteArray} {p : Nat} (out : List UInt8) (hp : p < s.size) : uq s p out = if rn s p = 34 then (if p + 1 < s.size then .error (11, p + 1) else .ok out)
      else if rn s p = 92 then (match esc s p with
        | none => .error (12, p)
        | some (b, n) => uq s (p + n) (out ++ b))
      else if stands s p = true then uq s (p + wd s p) (out ++ sub s p (wd s p))
      else .error (10, p) := by
  have hw := (wd_pos s p).1
  unfold uq
  obtain ⟨f, hf⟩ : ∃ f, s.size - p = f + 1 := ⟨s.size - p - 1, by omega⟩
  rw [hf]
  simp only [unqF]
  rw [if_pos hp]
  by_cases h1 : rn s p = 34
  · rw [if_pos h1, if_pos h1]
  rw [if_neg h1, if_neg h1]
  by_cases h2 : rn s p = 92
  · rw [if_pos h2, if_pos h2]
    cases he : esc s p with
    | none => rfl
    | some x =>
      obtain ⟨b, n⟩ := x
      have := cnt_esc s p (at_rn hp (c := 92) (by omega) h2).1 he
      simp only
      exact unqF_more s _ _ _ _ (by omega) (by omega)
  rw [if_neg h2, if_neg h2]
  by_cases h3 : stands s p = true
  · rw [if_pos h3, if_pos h3]
    exact unqF_more s _ _ _ _ (by omega) (by omega)
  · rw [if_neg h3, if_neg h3]
theorem unq_uq (s : ByteArray) : unq s = if 65536 < s.size then .error (2, 0) else if atB s 0 = 34 then uq s 1 [] else .error (11, 0) := by
  unfold unq
  split
  · rfl
  split
  · exact unqF_more s _ _ _ _ (by omega) (by omega)
  · rfl
end Go.Ear
namespace Go.Proofs.YtkamjhhaghkdmaaDoor
open Go.RowKit Go.Ear
set_option maxHeartbeats 4000000
set_option maxRecDepth 100000
set_option linter.unusedSimpArgs false
set_option linter.unusedVariables false
theorem infoU8 : (Tryd.prog.info? 5).map (fun i => (i.zero, i.size, i.bytes)) = some (some (.int .u8 0), 1, 1) := by kernel_rfl
theorem sizeBu : (Tryd.prog.info? 115).map (·.size) = some 2 := by kernel_rfl
theorem liesBu : liesAt Tryd.prog Tryd.prog.depth 115 (2 / Tryd.prog.cellsOf 115) 0 115 1 = true := by kernel_rfl
theorem check_used (b : Nat) (w : World) (h0 : w.cell? ⟨b, 0, none⟩ = some (.pointer (some ⟨b, 0, none⟩))) :
    Calls Tryd.prog 72 #[.pointer (some ⟨b, 0, none⟩)] w fun e w' => e = .returned (.tuple #[]) ∧ w' = w := by
  obtain ⟨j, hj, _⟩ := Option.map_eq_some_iff.1 sizeBu
  go_enter Tryd.func72, Tryd.ntmps72
  go_wp2
  rw [Lib.run_neq_ptr_same w _ Tryd.underlying113 hj]
  go_wp2
  go_end0
  exact ⟨rfl, rfl⟩
theorem check_fresh (b : Nat) (w : World) (h0 : w.cell? ⟨b, 0, none⟩ = some (.pointer none)) (hsh : w.shape? b = some (115, 2)) (hfz : w.frozen? ⟨b, 0, none⟩ = false) :
    Calls Tryd.prog 72 #[.pointer (some ⟨b, 0, none⟩)] w fun e w' => e = .returned (.tuple #[]) ∧ w' = w.setCell ⟨b, 0, none⟩ (.pointer (some ⟨b, 0, none⟩)) := by
  obtain ⟨j, hj, hjs⟩ := Option.map_eq_some_iff.1 sizeBu
  go_enter Tryd.func72, Tryd.ntmps72
  go_wp2
  rw [Lib.run_to_unsafe w ⟨b, 0, none⟩ Tryd.underlying113 Tryd.underlying142 hj (by rw [hjs]; decide) hsh (Nat.zero_lt_succ 1)]
  simp only [Result.andThen]
  rw [Oper.upon_value]
  go_wp2
  rw [run_callFunc_extern Tryd.func83 (by kernel_rfl) (by kernel_rfl) (by kernel_rfl) (e := Extern.AbiNoEscape.same) (by kernel_rfl)]
  rw [Lib.run_noEscape]
  simp only [Result.andThen]
  rw [Oper.upon_value]
  go_wp2
  rw [Lib.run_from_unsafe w ⟨b, 0, none⟩ Tryd.underlying142 Tryd.underlying113 hj hsh liesBu]
  simp only [Result.andThen]
  rw [Oper.upon_value]
  go_wp2
  go_end0
  exact ⟨rfl, rfl⟩
theorem check_any (B b : Nat) (bs : List Value) (w : World) (h : Lib.IsBuilder 115 5 B b bs w) :
    Calls Tryd.prog 72 #[.pointer (some ⟨b, 0, none⟩)] w fun e w' => e = .returned (.tuple #[]) ∧ (Lib.BuilderAt 115 5 B b (.pointer (some ⟨b, 0, none⟩)) bs w' ∧ Below B w w' ∧ ∀ k, k ≠ b → w'.heap[k]? = w.heap[k]?) := by
  rcases h with h | h
  · refine (check_fresh b w h.cell0 h.shape h.frozen0).mono ?_
    rintro e w' ⟨rfl, rfl⟩
    exact ⟨rfl, h.used _, (Below.refl B w).setCell (p := ⟨b, 0, none⟩) h.1 _, fun k hk => heap_set_far _ _ _ _ hk⟩
  · refine (check_used b w h.cell0).mono ?_
    rintro e w' ⟨rfl, rfl⟩
    exact ⟨rfl, h, Below.refl B _, fun _ _ => rfl⟩
/-- Whatever is no row of bytes, and not block b, stands as it stood. -/
def Kept5 (b : Nat) (w w' : World) : Prop := ∀ k o, w.heap[k]? = some o → k ≠ b → (∀ cs fr, o ≠ .cells cs 5 fr) → w'.heap[k]? = some o
theorem write_any (B b : Nat) (bs : List Value) (s : ByteArray) (w : World) (h : Lib.IsBuilder 115 5 B b bs w) (hlen : bs.length + s.size ≤ 140737488355328) (hBw : B ≤ w.heap.size) :
    Calls Tryd.prog 52 #[.pointer (some ⟨b, 0, none⟩), .string s] w fun e w' => e = .returned (.tuple #[.int .i64 s.size, .nilIface]) ∧ (Lib.BuilderAt 115 5 B b (.pointer (some ⟨b, 0, none⟩)) (bs ++ Lib.strCells s) w' ∧ Below B w w' ∧ Kept5 b w w') := by
  obtain ⟨i0, hi, hz0, hz1, hz2⟩ := info_parts infoU8
  have HL := Lib.hid hlen
  clear hlen
  go_enter Tryd.func52, Tryd.ntmps52
  go_wp2_with (go_at_call 72; refine (check_any B b bs _ h).mono ?_)
  rintro e w1 ⟨rfl, h1, hb1, hk1⟩
  obtain ⟨hB, v, hbk, hown, hne⟩ := h1
  have c0 : w1.cell? ⟨b, 0, none⟩ = some (.pointer (some ⟨b, 0, none⟩)) := by rw [cell_of_row _ _ 0 _ _ _ hbk]; rfl
  have c1 : w1.cell? ⟨b, 1, none⟩ = some v := by rw [cell_of_row _ _ 1 _ _ _ hbk]; rfl
  obtain ⟨A0, k0, rfl⟩ := own_shape hown
  go_wp2_with (at_builtin; refine Lib.wpList_append_own_string _ rfl _ _ 48 9 rfl B 5 i0 Tryd.underlying48 Tryd.underlying9 hi hz0 hz1 hz2 _ _ _ rfl hown s rfl ?c3 ?c4 ?c5 ?_)
  case c3 => have := HL.out; unfold maxLen; omega
  case c4 => have := HL.out; omega
  case c5 => have := hb1.size; omega
  intro v' w2 hown' hgrow _
  have hlt : b < w1.heap.size := (Array.getElem?_eq_some_iff.1 hbk).1
  have hb2 : w2.heap[b]? = some (.cells #[.pointer (some ⟨b, 0, none⟩), .slice A0 bs.length k0] 115 (0, 0)) := by
    rw [hgrow.block b hlt (fun e => hne e.symm)]
    exact hbk
  have d0 : w2.cell? ⟨b, 0, none⟩ = some (.pointer (some ⟨b, 0, none⟩)) := by rw [cell_of_row _ _ 0 _ _ _ hb2]; rfl
  have d1 : w2.cell? ⟨b, 1, none⟩ = some (.slice A0 bs.length k0) := by rw [cell_of_row _ _ 1 _ _ _ hb2]; rfl
  have f1 : w2.frozen? ⟨b, 1, none⟩ = false := frozen_of_row _ _ 1 _ _ hb2
  obtain ⟨ao, cap, rfl⟩ := own_shape hown'
  have HO := Lib.hid (And.intro hown' (And.intro hgrow (And.intro hb2 (And.intro hb1 (And.intro hown (And.intro hB (And.intro hne hk1)))))))
  clear hk1 hown' hgrow hb2 hb1 hown hB hne hbk h
  go_wp2
  go_ret2
  obtain ⟨hown', hgrow, hb2, hb1, hown, hB, hne, hk1⟩ := HO.out
  have hgrow2 := hgrow
  refine ⟨rfl, ?_, ?_, ?_⟩
  · exact Lib.BuilderAt.put (T := 115) (e := 5) hB hb2 (bs' := bs ++ Lib.strCells s) (by simpa [Lib.strCells_length] using hown') (by decide)
  · exact (hb1.grown hgrow (by have := hb1.size; omega) (fun k hk => (hown.lt k hk).1)).setCell (p := ⟨b, 1, none⟩) hB _
  · intro k o ho hk h5
    refine (heap_set_far _ _ _ _ hk).trans ?_
    have h1 := (hk1 k hk).trans ho
    refine (hgrow.block k (Array.getElem?_eq_some_iff.1 h1).1 (fun e => ?_)).trans h1
    rcases hown.2 with ⟨e1, _⟩ | ⟨g, cap, cur, e1, _, hb, _⟩
    · rw [e1] at e; simp [Value.ownBlock] at e
    · rw [e1] at e
      simp [Value.ownBlock] at e
      subst e
      rw [hb] at h1
      exact h5 _ _ (Option.some.inj h1).symm
theorem bu_grow {B b : Nat} {bs : List Value} {w w' : World} (h : Lib.IsBuilder 115 5 B b bs w) (hc : Chg Noth w w') : Lib.IsBuilder 115 5 B b bs w' := by
  have one : ∀ p, Lib.BuilderAt 115 5 B b p bs w → Lib.BuilderAt 115 5 B b p bs w' := fun p ⟨h1, v, h2, h3, h4⟩ => ⟨h1, v, (hc.block b (Array.getElem?_eq_some_iff.1 h2).1 (fun e => e)).trans h2, own_chg h3 hc (fun _ _ e => e), h4⟩
  rcases h with h | h
  · exact .inl (one _ h)
  · exact .inr (one _ h)
theorem bu_new (w : World) : Lib.IsBuilder 115 5 w.heap.size w.heap.size [] (w.alloc (.cells #[.pointer none, .slice none 0 0] 115)) :=
  .inl ⟨Nat.le_refl _, _, heap_alloc_new _ _, World.ownsRow_nil _ _ _ _, by simp [Value.ownBlock]⟩
end Go.Proofs.YtkamjhhaghkdmaaDoor
