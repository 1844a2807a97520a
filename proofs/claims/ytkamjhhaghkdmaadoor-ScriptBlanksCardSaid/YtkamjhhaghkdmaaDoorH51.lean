/- Lists of steps compared; the first call of chapter 20's laws. -/
import Derived.Test.YtkamjhhaghkdmaaDoorH50
namespace Go.Proofs.YtkamjhhaghkdmaaDoor
open Go.RowKit Go.Ear Go.Shelf
set_option linter.unusedSimpArgs false
set_option linter.unusedVariables false
set_option maxRecDepth 100000
set_option maxHeartbeats 4000000
/-- What a step's bytes come to at most. -/
def _root_.Go.Ear.StepS.small (s : StepS) : Prop := s.data.length ≤ 300000
theorem readP_small (l : List Int) : ∀ (ps : List Pl) (ws : List Wd) (s s' : StepS), s.small → readP l ps ws s = .ok s' → s'.small
  | [], ws, s, s', hs, h => by
    have : readP l [] ws s = .ok s := by cases ws <;> rfl
    rw [this] at h
    injection h with h
    subst h
    exact hs
  | p :: ps, [], s, s', hs, h => by
    have : readP l (p :: ps) [] s = .ok s := by cases p <;> rfl
    rw [this] at h
    injection h with h
    subst h
    exact hs
  | .sign :: ps, y :: ws, s, s', hs, h => by
    simp only [readP] at h
    split at h
    · refine readP_small l ps ws _ s' ?_ h
      exact hs
    · cases h
  | .num i :: ps, y :: ws, s, s', hs, h => by
    simp only [readP] at h
    split at h
    · cases h
    · refine readP_small l ps ws _ s' ?_ h
      split
      · exact hs
      · split <;> exact hs
  | .text :: ps, y :: ws, s, s', hs, h => by
    simp only [readP] at h
    cases hu : unq ⟨y.text.toArray⟩ with
    | error e => rw [hu] at h; cases h
    | ok b =>
      rw [hu] at h
      refine readP_small l ps ws _ s' ?_ h
      exact unq_err.2 b hu
theorem stepsF_small (l : List Int) : ∀ (r : List (Nat × List Wd)) (acc st : List StepS), acc.length ≤ 4096 → (∀ s ∈ acc, s.small) → stepsF l r acc = .ok st → st.length ≤ 4096 ∧ ∀ s ∈ st, s.small
  | [], acc, st, h1, h2, h => by
    simp only [stepsF] at h
    injection h with h
    subst h
    exact ⟨h1, h2⟩
  | (no, ws) :: r, acc, st, h1, h2, h => by
    simp only [stepsF] at h
    cases hs : stepS l ws with
    | error e => rw [hs] at h; cases h
    | ok x =>
      rw [hs] at h
      simp only at h
      by_cases h4 : 4096 ≤ acc.length
      · rw [if_pos h4] at h; cases h
      · rw [if_neg h4] at h
        refine stepsF_small l r _ st (by simp; omega) (fun s hm => ?_) h
        rcases List.mem_append.1 hm with hm | hm
        · exact h2 s hm
        · rw [List.mem_singleton.1 hm]
          cases ws with
          | nil => cases hs
          | cons w r' =>
            rw [stepS_find] at hs
            cases hf : stepRows.find? (isRow (w :: r')) with
            | none => rw [hf] at hs; cases hs
            | some y =>
              rw [hf] at hs
              exact readP_small l _ _ _ x (Nat.zero_le _) hs
theorem parse_small {t b : List UInt8} {f : Int} {L : List StepS} (h : parse t = .ok (b, f, L)) : L.length ≤ 4096 ∧ ∀ s ∈ L, s.small := by
  rw [parse_rows] at h
  cases hs : scan t with
  | error e => rw [hs] at h; cases h
  | ok rows =>
    rw [hs] at h
    simp only [parseRows] at h
    cases hf : full rows with
    | nil => rw [hf] at h; cases h
    | cons x r =>
      obtain ⟨no, ws⟩ := x
      rw [hf] at h
      simp only at h
      cases hh : headS ws with
      | error e => rw [hh] at h; cases h
      | ok p =>
        obtain ⟨b', l, f'⟩ := p
        rw [hh] at h
        simp only at h
        cases hst : stepsF l r [] with
        | error e => rw [hst] at h; cases h
        | ok st =>
          rw [hst] at h
          simp only [Except.ok.injEq, Prod.mk.injEq] at h
          obtain ⟨_, _, rfl⟩ := h
          exact stepsF_small l r [] st (by simp) (by simp) hst
theorem readP_err (l : List Int) : ∀ (ps : List Pl) (ws : List Wd) (s : StepS) (e : Int), readP l ps ws s = .error e → e ≠ 0
  | [], ws, s, e, h => by
    have : readP l [] ws s = .ok s := by cases ws <;> rfl
    rw [this] at h
    cases h
  | p :: ps, [], s, e, h => by
    have : readP l (p :: ps) [] s = .ok s := by cases p <;> rfl
    rw [this] at h
    cases h
  | .sign :: ps, y :: ws, s, e, h => by
    simp only [readP] at h
    split at h
    · exact readP_err l ps ws _ e h
    · simp only [Except.error.injEq] at h
      omega
  | .num i :: ps, y :: ws, s, e, h => by
    simp only [readP] at h
    split at h
    · simp only [Except.error.injEq] at h
      omega
    · exact readP_err l ps ws _ e h
  | .text :: ps, y :: ws, s, e, h => by
    simp only [readP] at h
    cases hu : unq ⟨y.text.toArray⟩ with
    | error x =>
      obtain ⟨e2, c2⟩ := x
      rw [hu] at h
      simp only [Except.error.injEq] at h
      rw [← h]
      exact unq_err.1 e2 c2 hu
    | ok b =>
      rw [hu] at h
      exact readP_err l ps ws _ e h
theorem stepsF_err (l : List Int) : ∀ (r : List (Nat × List Wd)) (acc : List StepS) (e : Int) (no : Nat), stepsF l r acc = .error (e, no) → e ≠ 0
  | [], acc, e, no, h => by cases h
  | (n', ws) :: r, acc, e, no, h => by
    simp only [stepsF] at h
    cases hs : stepS l ws with
    | error e' =>
      rw [hs] at h
      simp only [Except.error.injEq, Prod.mk.injEq] at h
      rw [← h.1]
      cases ws with
      | nil =>
        simp only [stepS, Except.error.injEq] at hs
        omega
      | cons w r' =>
        rw [stepS_find] at hs
        cases hf : stepRows.find? (isRow (w :: r')) with
        | none =>
          rw [hf] at hs
          simp only [Except.error.injEq] at hs
          omega
        | some y =>
          rw [hf] at hs
          exact readP_err l _ _ _ e' hs
    | ok x =>
      rw [hs] at h
      simp only at h
      by_cases h4 : 4096 ≤ acc.length
      · rw [if_pos h4] at h
        simp only [Except.error.injEq, Prod.mk.injEq] at h
        omega
      · rw [if_neg h4] at h
        exact stepsF_err l r _ e no h
/-- An error of a script is no OK. -/
theorem parse_err {t : List UInt8} {e : Int} {no : Nat} (h : parse t = .error (e, no)) : e ≠ 0 := by
  rw [parse_rows] at h
  cases hs : scan t with
  | error x =>
    obtain ⟨e', n', c'⟩ := x
    rw [hs] at h
    simp only [Except.error.injEq, Prod.mk.injEq] at h
    rw [← h.1]
    exact scan_err hs
  | ok rows =>
    rw [hs] at h
    simp only [parseRows] at h
    cases hf : full rows with
    | nil =>
      rw [hf] at h
      simp only [Except.error.injEq, Prod.mk.injEq] at h
      omega
    | cons x r =>
      obtain ⟨n', ws⟩ := x
      rw [hf] at h
      simp only at h
      cases hh : headS ws with
      | error e' =>
        rw [hh] at h
        simp only [Except.error.injEq, Prod.mk.injEq] at h
        rw [← h.1]
        rcases ws with _ | ⟨w0, _ | ⟨w1, _ | ⟨w2, _ | ⟨w3, _ | ⟨w4, r'⟩⟩⟩⟩⟩
        all_goals try (simp only [headS, Except.error.injEq] at hh; omega)
        simp only [headS] at hh
        split at hh
        · cases hu : unq ⟨w1.text.toArray⟩ with
          | error y =>
            obtain ⟨e2, c2⟩ := y
            rw [hu] at hh
            simp only [Except.error.injEq] at hh
            rw [← hh]
            exact unq_err.1 e2 c2 hu
          | ok b =>
            rw [hu] at hh
            simp only at hh
            split at hh
            · rename_i hr
              simp only [Except.error.injEq] at hh
              rw [← hh]
              exact hr
            · split at hh
              · simp only [Except.error.injEq] at hh
                omega
              · cases hh
        · simp only [Except.error.injEq] at hh
          omega
      | ok p =>
        obtain ⟨b', l, f'⟩ := p
        rw [hh] at h
        simp only at h
        cases hst : stepsF l r [] with
        | ok st => rw [hst] at h; cases h
        | error y =>
          obtain ⟨e2, n2⟩ := y
          rw [hst] at h
          simp only [Except.error.injEq, Prod.mk.injEq] at h
          rw [← h.1]
          exact stepsF_err l r [] e2 n2 hst
theorem alive_parse : parse [110, 111, 100, 101, 115, 32, 34, 206, 177, 206, 178, 34, 32, 102, 97, 117, 108, 116, 115, 32, 49, 32, 35, 32, 120, 10, 10, 112, 111, 108, 108, 32, 206, 178] = .ok ([206, 177, 206, 178], 1, [⟨1, 1, 0, 0, []⟩]) := by
  kernel_rfl
/-- A list of steps that can be read. -/
structure SR (w : World) (v : Value) (vs : List Value) (L : List StepS) : Prop where
  sl : SL w v L.length 5 (flatS L vs)
  len : vs.length = L.length
  data : ∀ (i : Nat) (s : StepS) (u : Value), L[i]? = some s → vs[i]? = some u → SL w u s.data.length 1 (bv s.data)
theorem SR.grow {w w' : World} {v : Value} {vs : List Value} {L : List StepS} (h : SR w v vs L) (hc : Chg Noth w w') : SR w' v vs L := ⟨h.sl.grow hc, h.len, fun i s u hs hu => (h.data i s u hs hu).grow hc⟩
theorem DAt.sl {w : World} {nb : Nat} {v : Value} {d : List UInt8} (h : DAt w nb v d) : SL w v d.length 1 (bv d) := by
  rcases h with ⟨rfl, rfl⟩ | ⟨g, cap, cur, rfl, _, hb, hle, _, hsz, ht⟩
  · exact ⟨rfl, none, 0, rfl, fun _ => ⟨rfl, rfl⟩, Nat.le_refl _, fun h => absurd h (by simp)⟩
  · refine ⟨by simp, _, _, rfl, fun e => (nomatch e), hle, fun _ => ⟨g, 0, rfl, (Array.getElem?_eq_some_iff.1 hb).1, fun i u hu => ?_⟩⟩
    rw [Nat.zero_add, cell_of_row _ _ _ _ _ _ hb]
    rw [← ht] at hu
    have hi : i < d.length := by
      have := (List.getElem?_eq_some_iff.1 hu).1
      simp at this
      omega
    rw [List.getElem?_take_of_lt hi] at hu
    simpa using hu
theorem SS.sr {w : World} {base : Nat} {gs : Value} {vs : List Value} {L : List StepS} (h : SS w base gs vs L) : SR w gs vs L := ⟨SL.of_own h.own, h.len, fun i s u hs hu => (h.data i s u hs hu).sl⟩
theorem flatS_get {L : List StepS} {vs : List Value} {i j : Nat} {s : StepS} {u : Value} (hs : L[i]? = some s) (hu : vs[i]? = some u) (hj : j < 5) : (flatS L vs)[i * 5 + j]? = (scells (s, u))[j]? := by
  unfold flatS
  refine flat_get scells 5 _ (fun _ _ => rfl) i j (s, u) ?_ hj
  rw [List.getElem?_zip_eq_some]
  exact ⟨hs, hu⟩
theorem flatS_len {L : List StepS} {vs : List Value} (h : vs.length = L.length) : (flatS L vs).length = L.length * 5 := by
  unfold flatS
  rw [List.length_flatMap]
  have : ((L.zip vs).map fun x => (scells x).length) = List.replicate (L.zip vs).length 5 := by
    rw [List.eq_replicate_iff]
    refine ⟨by simp, fun b hb => ?_⟩
    obtain ⟨x, _, rfl⟩ := List.mem_map.1 hb
    rfl
  rw [this, List.sum_replicate_nat]
  simp [h]
/-- The beginning of a list. -/
theorem SR.take {w : World} {A : Option Addr} {n c : Nat} {vs : List Value} {L : List StepS} (h : SR w (.slice A n c) vs L) {k : Nat} (hk : k ≤ L.length) : SR w (.slice A k c) (vs.take k) (L.take k) := by
  have hlen := h.len
  have hl : (L.take k).length = k := by simp; omega
  refine ⟨?_, by simp; omega, fun i s u hs hu => ?_⟩
  · obtain ⟨h1, A', c', e, h2, h3, h4⟩ := h.sl
    simp only [Value.slice.injEq] at e
    obtain ⟨rfl, rfl, rfl⟩ := e
    refine ⟨flatS_len (by simp; omega), A, c, by rw [hl], fun e => ?_, by omega, fun hp => ?_⟩
    · have := h2 e
      omega
    · obtain ⟨b, off, e, hb, hc⟩ := h4 (by omega)
      refine ⟨b, off, e, hb, fun i u hu => hc i u ?_⟩
      have hi : i < k * 5 := by
        have := (List.getElem?_eq_some_iff.1 hu).1
        rw [flatS_len (by simp; omega), hl] at this
        exact this
      have e1 : i = i / 5 * 5 + i % 5 := by omega
      have hik : i / 5 < k := by omega
      have hs1 : (L.take k)[i / 5]? = some L[i / 5] := by rw [List.getElem?_take_of_lt hik]; exact List.getElem?_eq_getElem _
      have hv1 : (vs.take k)[i / 5]? = some vs[i / 5] := by rw [List.getElem?_take_of_lt hik]; exact List.getElem?_eq_getElem _
      rw [e1, flatS_get hs1 hv1 (Nat.mod_lt _ (by decide))] at hu
      rw [e1, flatS_get (List.getElem?_eq_getElem (by omega)) (List.getElem?_eq_getElem (by omega)) (Nat.mod_lt _ (by decide))]
      exact hu
  · have hi : i < k := by
      have := (List.getElem?_eq_some_iff.1 hs).1
      simp at this
      omega
    rw [List.getElem?_take_of_lt hi] at hs hu
    exact h.data i s u hs hu
/-- The cells of one step. -/
theorem SR.cells {w : World} {A : Option Addr} {n c : Nat} {vs : List Value} {L : List StepS} (h : SR w (.slice A n c) vs L) (hp : 0 < n) : n = L.length ∧ n ≤ c ∧ ∃ b off, A = some ⟨b, off, none⟩ ∧ b < w.heap.size ∧ ∀ (i : Nat) s u, L[i]? = some s → vs[i]? = some u →
    w.cell? ⟨b, off + i * 5, none⟩ = some (.int .i64 s.kind) ∧ w.cell? ⟨b, off + i * 5 + 1, none⟩ = some (.int .i64 s.a) ∧ w.cell? ⟨b, off + i * 5 + 2, none⟩ = some (.int .i64 s.b) ∧ w.cell? ⟨b, off + i * 5 + 3, none⟩ = some (.int .i64 s.c) ∧ w.cell? ⟨b, off + i * 5 + 4, none⟩ = some u := by
  obtain ⟨h1, A', c', e, h2, h3, h4⟩ := h.sl
  simp only [Value.slice.injEq] at e
  obtain ⟨rfl, rfl, rfl⟩ := e
  obtain ⟨b, off, e, hb, hc⟩ := h4 hp
  refine ⟨rfl, h3, b, off, e, hb, fun i s u hs hu => ?_⟩
  have hg := fun j hj => flatS_get (j := j) hs hu hj
  refine ⟨hc (i * 5) _ ((hg 0 (by decide)).trans rfl), ?_, ?_, ?_, ?_⟩
  · rw [Nat.add_assoc]; exact hc (i * 5 + 1) _ ((hg 1 (by decide)).trans rfl)
  · rw [Nat.add_assoc]; exact hc (i * 5 + 2) _ ((hg 2 (by decide)).trans rfl)
  · rw [Nat.add_assoc]; exact hc (i * 5 + 3) _ ((hg 3 (by decide)).trans rfl)
  · rw [Nat.add_assoc]; exact hc (i * 5 + 4) _ ((hg 4 (by decide)).trans rfl)
theorem alive_v (w : World) : Calls Tryd.prog 6 #[] w (Gc (.bool true) w) := by
  have hpa := fun W => parse_v ⟨#[110, 111, 100, 101, 115, 32, 34, 206, 177, 206, 178, 34, 32, 102, 97, 117, 108, 116, 115, 32, 49, 32, 35, 32, 120, 10, 10, 112, 111, 108, 108, 32, 206, 178]⟩ W
  simp only [alive_parse] at hpa
  go_enter Tryd.func6, Tryd.ntmps6
  go_wp2_with fail
  go_at_call 5
  refine (hpa _).mono ?_
  rintro e X ⟨hc, gs, vs, rfl, hss⟩
  obtain ⟨A, c, rfl⟩ := own_shape hss.own
  obtain ⟨hn, hcc, b, off, rfl, hb, hcell⟩ := hss.sr.cells (by decide)
  obtain ⟨u, hu⟩ : ∃ u, vs[0]? = some u := ⟨_, List.getElem?_eq_getElem (by rw [hss.len]; decide)⟩
  obtain ⟨c0, c1, _⟩ := hcell 0 _ u rfl hu
  simp only [Nat.zero_mul, Nat.add_zero] at c0 c1
  have jb : Old b X := ⟨hb⟩
  have e1 : ((⟨#[206, 177, 206, 178]⟩ : ByteArray).toList == (⟨#[206, 177, 206, 178]⟩ : ByteArray).toList) = true := by simp
  have HC := Lib.hid hc
  clear hc hss hcell hpa hu
  go_wp2_with fail
  go_ret
  exact ⟨rfl, HC.out.trans (chg_alloc (Chg.refl _ _) _) (fun _ _ h => h)⟩
end Go.Proofs.YtkamjhhaghkdmaaDoor
