/- script: what a sign's and a text's place says. script: a reader's steps in memory. -/
import Derived.Test.YtkamjhhaghkdmaaDoorH42
import Derived.Laws.IdiomStrings
import Derived.Deep.RegionLaw
namespace Go.Proofs.YtkamjhhaghkdmaaDoor
open Go.RowKit Go.Ear Go.Shelf
set_option maxHeartbeats 4000000
set_option maxRecDepth 100000
set_option linter.unusedSimpArgs false
set_option linter.unusedVariables false
/-- The roster of a reader. -/
def RosAt (w : World) (p : Nat) (l : List Int) : Prop := ∃ x0 x1 t A c m x5, w.heap[p]? = some (.cells #[x0, x1, .string t, .slice A l.length c, .map m, x5] 46) ∧ RosterIs w (.agg #[.string t, .slice A l.length c, .map m]) l
theorem RosAt.grow {w w' : World} {p : Nat} {l : List Int} (h : RosAt w p l) (hc : Chg Noth w w') : RosAt w' p l := by
  obtain ⟨x0, x1, t, A, c, m, x5, h1, h2⟩ := h
  exact ⟨x0, x1, t, A, c, m, x5, blk_grow hc h1, h2.grow hc⟩
theorem say_set {W X1 : World} {nb b : Nat} {s : StepS} {v : Value} (hS : StepAt W nb b s v) (hc : Chg Noth W X1) (a : Int) : StepAt (X1.setCell ⟨b, 1, none⟩ (.int .i64 a)) nb b { s with a := a } v := by
  obtain ⟨hb, hd⟩ := hS
  refine ⟨(step_set (nb := nb) 1 a hc hb).trans rfl, hd.keep fun k hk => ?_⟩
  refine (chg_set_b (b := b) hc).block k (hd.lt k hk).2.1 fun e => ?_
  subst e
  obtain ⟨_, _, cur, z, h⟩ := hd.lt k hk
  rw [hb] at h
  cases h
theorem sign2_v (l : List Int) (p b nb : Nat) (y : Wd) (s : StepS) (v : Value) (w : World) (hr : RosAt w p l) (hS : StepAt w nb b s v) (hs : 0 < y.text.length) :
    Calls Tryd.prog 64 #[.pointer (some ⟨p, 0, none⟩), .pointer (some ⟨b, 0, none⟩), .string ⟨y.text.toArray⟩] w (SayPost w nb b (sayS l .sign y s)) := by
  have hR : sayS l .sign y s = if rn ⟨y.text.toArray⟩ 0 ∈ l then .ok { s with a := fnd l (rn ⟨y.text.toArray⟩ 0) 0 } else .error 41 := by
    simp only [sayS, readP]
  rw [hR]
  clear hR
  have hfi := fun W => first_any ⟨y.text.toArray⟩ W (by show 0 < y.text.toArray.size; simpa using hs)
  obtain ⟨x0, x1, t, A, c, m, x5, hb, hro⟩ := hr
  have hid := fun (r : Int) W (hW : Chg Noth w W) => id_any t A c m l r W (hro.grow hW)
  have jp : Old p w := ⟨(Array.getElem?_eq_some_iff.1 hb).1⟩
  have jb : Old b w := ⟨(Array.getElem?_eq_some_iff.1 hS.1).1⟩
  have q2 : w.cell? ⟨p, 2, none⟩ = some (.string t) := (cell_of_row w p 2 _ _ _ hb).trans rfl
  have q3 : w.cell? ⟨p, 3, none⟩ = some (.slice A l.length c) := (cell_of_row w p 3 _ _ _ hb).trans rfl
  have q4 : w.cell? ⟨p, 4, none⟩ = some (.map m) := (cell_of_row w p 4 _ _ _ hb).trans rfl
  have k1 : w.cell? ⟨b, 1, none⟩ = some (.int .i64 s.a) := (cell_of_row w b 1 _ _ _ hS.1).trans rfl
  have h1 : HasCell w b 1 := ⟨by rw [k1]; rfl⟩
  have hz : ∀ i, w.frozen? ⟨b, i, none⟩ = false := fun i => frozen_of_row _ _ _ _ _ hS.1
  obtain ⟨u, hu⟩ : ∃ t, (⟨y.text.toArray⟩ : ByteArray) = t := ⟨_, rfl⟩
  rw [hu] at hfi ⊢
  obtain ⟨r, hr⟩ : ∃ r, rn u 0 = r := ⟨_, rfl⟩
  rw [hr] at hfi ⊢
  replace hid := hid r
  obtain ⟨n', e', hid', hne⟩ : ∃ n' e' : Int, (∀ W, Chg Noth w W → Calls Tryd.prog 65 #[.agg #[.string t, .slice A l.length c, .map m], .int .i32 r] W (Gr (.tuple #[.int .i64 n', .int .i64 e']) W)) ∧ ((r ∉ l ∧ e' = 41) ∨ (r ∈ l ∧ n' = fnd l r 0 ∧ e' = 0)) := by
    by_cases h : r ∈ l
    · exact ⟨fnd l r 0, 0, fun W hW => by have := hid W hW; rwa [if_pos h] at this, .inr ⟨h, rfl, rfl⟩⟩
    · exact ⟨0, 41, fun W hW => by have := hid W hW; rwa [if_neg h] at this, .inl ⟨h, rfl⟩⟩
  have HN := Lib.hid (And.intro hne hS)
  obtain ⟨N, hN⟩ : ∃ N, l.length = N := ⟨_, rfl⟩
  rw [hN] at q3 hid'
  obtain ⟨w1, w2, hwl⟩ : ∃ w1 w2, wd u 0 = w1 ∧ lo u 0 = w2 := ⟨_, _, rfl, rfl⟩
  rw [hwl.1, hwl.2] at hfi
  clear hne hid hS hb hro hr hu hs hN hwl
  have key : Calls Tryd.prog 64 #[.pointer (some ⟨p, 0, none⟩), .pointer (some ⟨b, 0, none⟩), .string u] w (fun e X => e = .returned (.int .i64 e') ∧ ∃ X1, Chg Noth w X1 ∧ X = X1.setCell ⟨b, 1, none⟩ (.int .i64 n')) := by
    have hfld : ∀ (a b c : Int) (d : Bool) (W : World), (Instr.field 68 (.agg #[.int .i32 a, .int .i64 b, .int .i64 c, .bool d]) 0).run Tryd.prog W = .ok (.int .i32 a) W := fun _ _ _ _ _ => rfl
    go_enter Tryd.func64, Tryd.ntmps64
    go_wp2_with fail
    refine wp_region_grows (by kernel_rfl) (by kernel_rfl) ?_
    repeat (go_big_quiet_step (first | (go_at_call 21; exact grows_of (hfi _)) | (go_at_call 65; exact grows_of (hid' _ (Muts.h _)))))
    refine wpQuiet_nil ?_
    rintro _ ⟨g, rfl⟩
    clear hfi hid'
    go_wp2_with fail
    go_ret
    exact ⟨rfl, _, g.h, rfl⟩
  refine key.mono ?_
  rintro e X ⟨rfl, X1, hc, rfl⟩
  obtain ⟨hne, hS⟩ := HN.out
  rcases hne with ⟨h, rfl⟩ | ⟨h, rfl, rfl⟩
  · rw [if_neg h]
    exact ⟨by decide, rfl, chg_set_b hc⟩
  · rw [if_pos h]
    exact ⟨rfl, chg_set_b hc, v, say_set hS hc _⟩
theorem bytesRow_take (s : ByteArray) (cap : Nat) : (bytesRow s cap).toList.take s.data.toList.length = bv s.data.toList := by
  unfold bytesRow bv
  rw [Array.toList_append, List.take_append_of_le_length (by simp), List.take_of_length_le (by simp), Array.toList_map]
theorem bytesRow_size (s : ByteArray) (cap : Nat) (h : s.size ≤ cap) : (bytesRow s cap).size = cap := by
  unfold bytesRow
  rw [Array.size_append, Array.size_map, Array.size_replicate]
  have : s.data.size = s.size := rfl
  omega
theorem text1_v (l : List Int) (pv : Value) (b nb : Nat) (y : Wd) (s : StepS) (v : Value) (w : World) (hS : StepAt w nb b s v) (hnb : nb ≤ w.heap.size) :
    Calls Tryd.prog 68 #[pv, .pointer (some ⟨b, 0, none⟩), .string ⟨y.text.toArray⟩] w (SayPost w nb b (sayS l .text y s)) := by
  have hR : sayS l .text y s = match unq ⟨y.text.toArray⟩ with
      | .error (e, _) => .error e
      | .ok d => .ok { s with data := d } := by
    simp only [sayS, readP]
    cases unq ⟨y.text.toArray⟩ <;> rfl
  rw [hR]
  clear hR
  have hun := fun W => unquote_any ⟨y.text.toArray⟩ W
  have huE := @unq_err ⟨y.text.toArray⟩
  obtain ⟨u, hu⟩ : ∃ t, (⟨y.text.toArray⟩ : ByteArray) = t := ⟨_, rfl⟩
  rw [hu] at hun huE ⊢
  clear hu
  obtain ⟨R, hR⟩ : ∃ R, unq u = R := ⟨_, rfl⟩
  rw [hR] at hun huE ⊢
  clear hR
  obtain ⟨d, a', e', hun', hne⟩ : ∃ (d : List UInt8) (a' e' : Int), (∀ W, Calls Tryd.prog 33 #[.string u] W (Gc (.tuple #[.string ⟨d.toArray⟩, .int .i64 a', .int .i64 e']) W)) ∧ ((∃ k, R = .error (e', k) ∧ e' ≠ 0) ∨ (R = .ok d ∧ d.length ≤ 300000 ∧ e' = 0)) := by
    cases R with
    | error x =>
      obtain ⟨e, k⟩ := x
      exact ⟨[], k, e, hun, .inl ⟨k, rfl, huE.1 e k rfl⟩⟩
    | ok d => exact ⟨d, 0, 0, hun, .inr ⟨rfl, huE.2 d rfl, rfl⟩⟩
  have jb : Old b w := ⟨(Array.getElem?_eq_some_iff.1 hS.1).1⟩
  have k4 : w.cell? ⟨b, 4, none⟩ = some v := (cell_of_row w b 4 _ _ _ hS.1).trans rfl
  have h4 : HasCell w b 4 := ⟨by rw [k4]; rfl⟩
  have hz : ∀ i, w.frozen? ⟨b, i, none⟩ = false := fun i => frozen_of_row _ _ _ _ _ hS.1
  have HN := Lib.hid (And.intro hne (And.intro hS hnb))
  clear hne hS hun huE hnb
  obtain ⟨t, ht⟩ : ∃ t, (⟨d.toArray⟩ : ByteArray) = t := ⟨_, rfl⟩
  rw [ht] at hun'
  have HT := Lib.hid ht
  clear ht
  have hcv := fun W => run_bytes_of_string (P := Tryd.prog) W 9 48 5 t Tryd.underlying9 Tryd.underlying48 Tryd.underlying5
  have key : Calls Tryd.prog 68 #[pv, .pointer (some ⟨b, 0, none⟩), .string u] w (fun e X => e = .returned (.int .i64 e') ∧ ∃ X1 cap, Chg Noth w X1 ∧ t.size ≤ cap ∧ (cap = grownCap X1 t.size 0 5) ∧ X = ((X1.setCell ⟨b, 4, none⟩ (.slice (some ⟨X1.heap.size, 0, none⟩) t.size cap)).alloc (.cells (bytesRow t cap) 5 ((bytesRow t cap).size, (bytesRow t cap).size + 1))).drew) := by
    go_enter Tryd.func68, Tryd.ntmps68
    go_wp2_with fail
    go_at_call 33
    refine (hun' _).mono ?_
    rintro e X1 ⟨rfl, hc⟩
    obtain ⟨m, rfl⟩ := muts_ex hc
    replace hcv := hcv m.w
    obtain ⟨cap, hcap⟩ : ∃ cap, grownCap m.w t.size 0 5 = cap := ⟨_, rfl⟩
    have hge := grownCap_ge m.w t.size 0 5
    rw [hcap] at hcv hge
    have HC := Lib.hid (And.intro hcap hge)
    clear hcap hge hun'
    go_wp2_with fail
    go_ret
    exact ⟨rfl, _, cap, hc, HC.out.2, HC.out.1.symm, rfl⟩
  refine key.mono ?_
  rintro e X ⟨rfl, X1, cap, hc, hge, hcap, rfl⟩
  obtain ⟨hne, hS, hnb⟩ := HN.out
  have hlt : b < X1.heap.size := Nat.lt_of_lt_of_le (Array.getElem?_eq_some_iff.1 hS.1).1 hc.size
  have hC : ∀ v o, Chg (fun k => k = b) w (((X1.setCell ⟨b, 4, none⟩ v).alloc o).drew) := fun v o => chg_drew (chg_alloc (chg_set_b hc) o)
  rcases hne with ⟨k, rfl, h0⟩ | ⟨rfl, hdl, rfl⟩
  · exact ⟨h0, rfl, hC _ _⟩
  · refine ⟨rfl, hC _ _, .slice (some ⟨X1.heap.size, 0, none⟩) t.size cap, ?_, .inr ⟨X1.heap.size, cap, bytesRow t cap, ?_, ?_, ?_, ?_, ?_, ?_, ?_⟩⟩
    · exact (Below.heap_alloc _ _ _ (by simp [World.setCell]; exact hlt)).trans ((heap_setCell_same _ _ _ _ _ _ (blk_grow hc hS.1)).trans rfl)
    · have := HT.out
      rw [← this]
      rfl
    · exact Nat.le_trans hnb hc.size
    · rw [heap_drew, heap_hs _ _ X1.heap.size, bytesRow_size _ _ hge]
    · have := HT.out
      rw [← this] at hge
      exact hge
    · rw [hcap]
      refine grownCap_le_maxLen _ _ _ _ ?_
      have := HT.out
      rw [← this]
      show d.toArray.size ≤ _
      simp [maxLen]
      omega
    · exact bytesRow_size _ _ hge
    · have := HT.out
      have h := bytesRow_take t cap
      rw [← this] at h ⊢
      simpa using h
end Go.Proofs.YtkamjhhaghkdmaaDoor
namespace Go.Ear
set_option linter.unusedSimpArgs false
set_option linter.unusedVariables false
/-- One more step. -/
def stepA (l : List Int) (ws : List Wd) (L : List StepS) : Except Int (List StepS) := match stepS l ws with
  | .error e => .error e
  | .ok s => if 4096 ≤ L.length then .error 2 else .ok (L ++ [s])
/-- Is it this row? -/
def isRow (ws : List Wd) (x : List UInt8 × Int × List Pl) : Bool := match ws with
  | [] => false
  | w :: r => decide (w.kind = 2) && decide (w.text = x.1) && fitsP x.2.2 r
theorem stepS_find (l : List Int) (w : Wd) (r : List Wd) : stepS l (w :: r) = match stepRows.find? (isRow (w :: r)) with
    | none => .error 200
    | some x => readP l x.2.2 r ⟨x.2.1, 0, 0, 0, []⟩ := rfl
theorem stepsF_A (l : List Int) (no : Nat) (ws : List Wd) (r : List (Nat × List Wd)) (acc : List StepS) : stepsF l ((no, ws) :: r) acc = match stepA l ws acc with
    | .error e => .error (e, no)
    | .ok acc' => stepsF l r acc' := by
  simp only [stepsF, stepA]
  cases stepS l ws with
  | error e => rfl
  | ok s =>
    simp only
    by_cases h : 4096 ≤ acc.length
    · rw [if_pos h, if_pos h]
    · rw [if_neg h, if_neg h]
theorem stepA_len {l : List Int} {ws : List Wd} {L L' : List StepS} (h : stepA l ws L = .ok L') : L.length < 4096 ∧ L'.length = L.length + 1 := by
  unfold stepA at h
  cases hs : stepS l ws with
  | error e => rw [hs] at h; cases h
  | ok s =>
    rw [hs] at h
    simp only at h
    by_cases h4 : 4096 ≤ L.length
    · rw [if_pos h4] at h; cases h
    · rw [if_neg h4] at h
      injection h with h
      subst h
      simp
      omega
end Go.Ear
namespace Go.Proofs.YtkamjhhaghkdmaaDoor
open Go.RowKit Go.Ear Go.Shelf
set_option maxHeartbeats 4000000
set_option maxRecDepth 100000
set_option linter.unusedSimpArgs false
set_option linter.unusedVariables false
def scells (x : StepS × Value) : List Value := [.int .i64 x.1.kind, .int .i64 x.1.a, .int .i64 x.1.b, .int .i64 x.1.c, x.2]
def flatS (L : List StepS) (vs : List Value) : List Value := (L.zip vs).flatMap scells
theorem flatS_snoc (l : List StepS) (vs : List Value) (g : StepS) (v : Value) (h : vs.length = l.length) : flatS (l ++ [g]) (vs ++ [v]) = flatS l vs ++ scells (g, v) := by
  unfold flatS
  rw [List.zip_append h.symm, List.flatMap_append]
  simp
/-- Steps in memory of their own, from block base on. -/
structure SS (w : World) (base : Nat) (gs : Value) (vs : List Value) (L : List StepS) : Prop where
  own : w.ownsRow base 50 5 gs L.length (flatS L vs)
  len : vs.length = L.length
  data : ∀ (i : Nat) (s : StepS) (v : Value), L[i]? = some s → vs[i]? = some v → DAt w base v s.data
  apart : ∀ (i j : Nat) (v u : Value), i ≠ j → vs[i]? = some v → vs[j]? = some u → ∀ k, v.ownBlock = some k → u.ownBlock ≠ some k
theorem SS.at {w : World} {base : Nat} {gs : Value} {vs : List Value} {L : List StepS} (h : SS w base gs vs L) {i : Nat} {v : Value} (hv : vs[i]? = some v) : ∃ s, L[i]? = some s ∧ DAt w base v s.data := by
  have hi := (List.getElem?_eq_some_iff.1 hv).1
  have hl := h.len
  have hs : L[i]? = some L[i] := List.getElem?_eq_getElem (by omega)
  exact ⟨_, hs, h.data i _ v hs hv⟩
theorem SS.chg {w w' : World} {base : Nat} {gs : Value} {vs : List Value} {L : List StepS} {G : Nat → Prop} (h : SS w base gs vs L) (hc : Chg G w w') (hG : ∀ k, base ≤ k → gs.ownBlock = some k ∨ (∃ v ∈ vs, v.ownBlock = some k) → ¬ G k) : SS w' base gs vs L :=
  ⟨own_chg h.own hc fun k hk => hG k (h.own.lt k hk).1 (.inl hk), h.len, fun i s v hs hv => (h.data i s v hs hv).keep fun k hk => hc.block k ((h.data i s v hs hv).lt k hk).2.1 (hG k ((h.data i s v hs hv).lt k hk).1 (.inr ⟨v, List.mem_of_getElem? hv, hk⟩)), h.apart⟩
theorem SS.grow {w w' : World} {base : Nat} {gs : Value} {vs : List Value} {L : List StepS} (h : SS w base gs vs L) (hc : Chg Noth w w') : SS w' base gs vs L := h.chg hc fun _ _ _ e => e
theorem SS.nil (w : World) (base : Nat) : SS w base (.slice none 0 0) [] [] := ⟨World.ownsRow_nil _ _ _ _, rfl, fun i g v h => by simp at h, fun i j v u _ h => by simp at h⟩
/-- A list's block is of steps: none of its bytes' blocks. -/
theorem SS.sep {w : World} {base : Nat} {gs : Value} {vs : List Value} {L : List StepS} (h : SS w base gs vs L) {i : Nat} {v : Value} (hv : vs[i]? = some v) : ∀ k, v.ownBlock = some k → gs.ownBlock ≠ some k := by
  intro k hk e
  obtain ⟨s, hs, hd⟩ := h.at hv
  obtain ⟨_, _, cur, z, hb⟩ := hd.lt k hk
  exact own_ne h.own hb (by decide) k e rfl
theorem ss_snoc {W W' w1 : World} {base nb g cap : Nat} {gs v : Value} {vs : List Value} {L : List StepS} {x : StepS} (h : SS W base gs vs L) (hc : Chg Noth W W') (hg : W'.grownBy w1 gs.ownBlock)
    (hown : w1.ownsRow base 50 5 (.slice (some ⟨g, 0, none⟩) (L.length + 1) cap) (L.length + 1) (flatS L vs ++ scells (x, v))) (hv : DAt W' nb v x.data) (hnb : base ≤ nb) (hold : W.heap.size ≤ nb) :
    SS w1 base (.slice (some ⟨g, 0, none⟩) (L.length + 1) cap) (vs ++ [v]) (L ++ [x]) := by
  have h' : SS W' base gs vs L := h.grow hc
  have hlen := h.len
  have hc1 : Chg (fun k => gs.ownBlock = some k) W' w1 := Chg.of_grown hg
  have hvb : ∀ k, v.ownBlock = some k → gs.ownBlock ≠ some k := fun k hk e => by
    obtain ⟨_, _, cur, z, hb⟩ := hv.lt k hk
    exact own_ne h'.own hb (by decide) k e rfl
  have hsplit : ∀ (i : Nat) (u : Value), (vs ++ [v])[i]? = some u → (i < L.length ∧ vs[i]? = some u) ∨ (i = L.length ∧ u = v) := fun i u hu => by
    rcases Nat.lt_trichotomy i L.length with hi | hi | hi
    · rw [List.getElem?_append_left (by omega)] at hu
      exact .inl ⟨hi, hu⟩
    · subst hi
      rw [List.getElem?_append_right (by omega)] at hu
      simp [hlen] at hu
      exact .inr ⟨rfl, hu.symm⟩
    · rw [List.getElem?_append_right (by omega)] at hu
      have := (List.getElem?_eq_some_iff.1 hu).1
      simp at this
      omega
  have hdold : ∀ (i : Nat) (u : Value), vs[i]? = some u → ∀ k, u.ownBlock = some k → k < nb := fun i u hu k hk => by
    obtain ⟨s, hs, hd⟩ := h.at hu
    have := (hd.lt k hk).2.1
    omega
  refine ⟨by simpa [flatS_snoc _ _ _ _ h.len] using hown, by simp [h.len], fun i y u hy hu => ?_, fun i j u u' hij hu hu' k hk e => ?_⟩
  · rcases hsplit i u hu with ⟨hi, hu⟩ | ⟨rfl, rfl⟩
    · rw [List.getElem?_append_left hi] at hy
      have hd := h'.data i y u hy hu
      exact hd.keep fun k hk => hc1.block k (hd.lt k hk).2.1 (h'.sep hu k hk)
    · rw [List.getElem?_append_right (Nat.le_refl _)] at hy
      simp at hy
      subst hy
      have hd : DAt w1 nb u x.data := hv.keep fun k hk => hc1.block k (hv.lt k hk).2.1 (hvb k hk)
      rcases hd with hd | ⟨g', cap', cur, h1, h2, h3⟩
      · exact .inl hd
      · exact .inr ⟨g', cap', cur, h1, Nat.le_trans hnb h2, h3⟩
  · rcases hsplit i u hu with ⟨hi, hx⟩ | ⟨hi, hx⟩
    · rcases hsplit j u' hu' with ⟨hj, hy⟩ | ⟨hj, hy⟩
      · exact h.apart i j u u' hij hx hy k hk e
      · have h1 := hdold i u hx k hk
        rw [hy] at e
        have h2 := (hv.lt k e).1
        omega
    · rcases hsplit j u' hu' with ⟨hj, hy⟩ | ⟨hj, hy⟩
      · have h1 := hdold j u' hy k e
        rw [hx] at hk
        have h2 := (hv.lt k hk).1
        omega
      · omega
/-- A reader in memory. -/
structure RdIs (w : World) (p base : Nat) (b : List UInt8) (f : Int) (l : List Int) (L : List StepS) (gs : Value) (vs : List Value) : Prop where
  blk : ∃ t A c m, w.heap[p]? = some (.cells #[.string ⟨b.toArray⟩, .int .i64 f, .string t, .slice A l.length c, .map m, gs] 46) ∧ RosterIs w (.agg #[.string t, .slice A l.length c, .map m]) l
  ss : SS w base gs vs L
  few : L.length ≤ 4096
theorem RdIs.ros {w : World} {p base : Nat} {b : List UInt8} {f : Int} {l : List Int} {L : List StepS} {gs : Value} {vs : List Value} (h : RdIs w p base b f l L gs vs) : RosAt w p l := by
  obtain ⟨t, A, c, m, h1, h2⟩ := h.blk
  exact ⟨_, _, t, A, c, m, _, h1, h2⟩
theorem RdIs.grow {w w' : World} {p base : Nat} {b : List UInt8} {f : Int} {l : List Int} {L : List StepS} {gs : Value} {vs : List Value} (h : RdIs w p base b f l L gs vs) (hc : Chg Noth w w') : RdIs w' p base b f l L gs vs := by
  obtain ⟨t, A, c, m, h1, h2⟩ := h.blk
  exact ⟨⟨t, A, c, m, blk_grow hc h1, h2.grow hc⟩, h.ss.grow hc, h.few⟩
/-- The blocks that a step may write. -/
def FStep (p : Nat) (gs : Value) : Nat → Prop := fun k => k = p ∨ gs.ownBlock = some k
/-- What a step comes to. -/
def StepPost (w : World) (p base : Nat) (b : List UInt8) (f : Int) (l : List Int) (gs : Value) (R : Except Int (List StepS)) : Ending → World → Prop := fun e X => match R with
  | .error er => er ≠ 0 ∧ e = .returned (.int .i64 er) ∧ Chg Noth w X
  | .ok L' => e = .returned (.int .i64 0) ∧ Chg (FStep p gs) w X ∧ ∃ gs' vs', RdIs X p base b f l L' gs' vs'
theorem infoStep : (Tryd.prog.info? 50).map (fun i => (i.zero, i.size, i.bytes)) = some (some (.agg #[.int .i64 0, .int .i64 0, .int .i64 0, .int .i64 0, .slice none 0 0]), 5, 56) := by kernel_rfl
theorem own_blk {a : World} {base n sz : Nat} {e : TypeId} {v : Value} {xs : List Value} (h : a.ownsRow base e sz v n xs) : ∀ k, v.ownBlock = some k → ∃ cs, a.heap[k]? = some (.cells cs e (0, 0)) := by
  intro k hk
  rcases h.2 with ⟨rfl, _⟩ | ⟨g, cap, cur, rfl, _, hg, _⟩
  · simp [Value.ownBlock] at hk
  · simp [Value.ownBlock] at hk
    subst hk
    exact ⟨cur, hg⟩
theorem SS.far {w w' : World} {base p : Nat} {gs : Value} {vs : List Value} {L : List StepS} {cs : Array Value} {z : Nat × Nat} (h : SS w base gs vs L) (hc : Chg (fun k => k = p) w w') (hp : w.heap[p]? = some (.cells cs 46 z)) : SS w' base gs vs L :=
  h.chg hc fun k _ hk e => by
    subst e
    rcases hk with hk | ⟨v, hv, hk⟩
    · obtain ⟨cs', h'⟩ := own_blk h.own k hk
      rw [hp] at h'
      cases h'
    · obtain ⟨i, hi, rfl⟩ := List.mem_iff_getElem.1 hv
      obtain ⟨s, hs, hd⟩ := h.at (List.getElem?_eq_getElem hi)
      obtain ⟨_, _, cur, z', h'⟩ := hd.lt k hk
      rw [hp] at h'
      cases h'
/-- A reader that has got one more step. -/
theorem rd_snoc {w wr W' w1 : World} {p base g cap : Nat} {b : List UInt8} {f : Int} {l : List Int} {L : List StepS} {gs v : Value} {vs : List Value} {x : StepS} (h : RdIs w p base b f l L gs vs) (hbase : base ≤ w.heap.size) (hcw : Chg Noth w wr) (hc : Chg Noth wr W') (hg : W'.grownBy w1 gs.ownBlock)
    (hown : w1.ownsRow base 50 5 (.slice (some ⟨g, 0, none⟩) (L.length + 1) cap) (L.length + 1) (flatS L vs ++ scells (x, v))) (hv : DAt W' w.heap.size v x.data) (h4 : ¬ 4096 ≤ L.length) :
    Chg (FStep p gs) w (w1.setCell ⟨p, 5, none⟩ (.slice (some ⟨g, 0, none⟩) (L.length + 1) cap)) ∧ RdIs (w1.setCell ⟨p, 5, none⟩ (.slice (some ⟨g, 0, none⟩) (L.length + 1) cap)) p base b f l (L ++ [x]) (.slice (some ⟨g, 0, none⟩) (L.length + 1) cap) (vs ++ [v]) := by
  have hcW : Chg Noth w W' := hcw.trans hc (fun _ _ h => h)
  have hss := ss_snoc (x := x) h.ss hcW hg hown hv hbase (Nat.le_refl _)
  have h' := h.grow hcW
  obtain ⟨t, A, c, m, hb, hr⟩ := h'.blk
  have hnp := own_ne h'.ss.own hb (by decide)
  have hc1 : Chg (fun k => gs.ownBlock = some k) W' w1 := Chg.of_grown hg
  have hpl := (Array.getElem?_eq_some_iff.1 hb).1
  have hb1 : w1.heap[p]? = _ := (hc1.block p hpl (fun e => hnp p e rfl)).trans hb
  have hcF : Chg (FStep p gs) W' (w1.setCell ⟨p, 5, none⟩ (.slice (some ⟨g, 0, none⟩) (L.length + 1) cap)) :=
    (hc1.mono fun _ _ h => .inr h).trans (chg_set_b (b := p) (Chg.refl _ _)) (fun _ _ h => .inl h)
  refine ⟨(hcW.mono fun _ _ h => h.elim).trans hcF (fun _ _ h => h), ⟨t, A, c, m, ?_, hr.far hcF fun k hk => ?_⟩, hss.far (chg_set_b (b := p) (Chg.refl _ _)) hb1, by simp; omega⟩
  · exact (heap_setCell_same _ _ _ _ _ _ hb1).trans rfl
  · rcases hk with rfl | hk
    · exact ⟨_, _, _, hb, by decide⟩
    · obtain ⟨cs, h2⟩ := own_blk h'.ss.own k hk
      exact ⟨_, _, _, h2, by decide⟩
/-- The row of the table. -/
theorem TabV.at {w : World} {v : Value} (h : TabV w v) : ∃ g, v = .slice (some ⟨g, 0, none⟩) 12 12 ∧ g < w.heap.size ∧ ∀ (k : Nat) r, stepRows[k]? = some r → ∃ x, PlsV w r.2.2 x ∧
    w.cell? ⟨g, k * 3, none⟩ = some (.string ⟨r.1.toArray⟩) ∧ w.cell? ⟨g, k * 3 + 1, none⟩ = some (.int .i64 r.2.1) ∧ w.cell? ⟨g, k * 3 + 2, none⟩ = some x := by
  obtain ⟨g, vs, z, e, hb, hl, hP⟩ := h
  refine ⟨g, e, (Array.getElem?_eq_some_iff.1 hb).1, fun k r hr => ?_⟩
  have h12 : stepRows.length = 12 := rfl
  have hk := (List.getElem?_eq_some_iff.1 hr).1
  have hv : vs[k]? = some vs[k] := List.getElem?_eq_getElem (by omega)
  obtain ⟨x, hx, hq⟩ := hP k r _ hr hv
  have h3 : ∀ x ∈ vs, x.cells.toList.length = 3 := fun x hx => by
    obtain ⟨i, hi, rfl⟩ := List.mem_iff_getElem.1 hx
    have hpi : stepRows[i]? = some stepRows[i] := List.getElem?_eq_getElem (by omega)
    obtain ⟨y, hy, _⟩ := hP i _ _ hpi (List.getElem?_eq_getElem hi)
    rw [hy]
    rfl
  rw [hx] at hv
  have hg := fun j hj => flat_get (fun x : Value => x.cells.toList) 3 vs h3 k j _ hv hj
  refine ⟨x, hq, ?_, ?_, ?_⟩
  · rw [cell_of_row _ _ _ _ _ _ hb]
    have := hg 0 (by decide)
    simpa [Value.cells] using this
  · rw [cell_of_row _ _ _ _ _ _ hb]
    have := hg 1 (by decide)
    simpa [Value.cells] using this
  · rw [cell_of_row _ _ _ _ _ _ hb]
    have := hg 2 (by decide)
    simpa [Value.cells] using this
end Go.Proofs.YtkamjhhaghkdmaaDoor
