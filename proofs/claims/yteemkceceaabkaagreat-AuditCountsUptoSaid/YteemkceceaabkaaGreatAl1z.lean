/- Lists of events lent out. -/
import Derived.Test.YteemkceceaabkaaGreatAg0
import Derived.Laws.AppendOwnNone
namespace Go.Proofs.YteemkceceaabkaaGreat
open Go.RowKit Go.Ear
set_option maxHeartbeats 4000000
set_option maxRecDepth 100000
set_option linter.unusedSimpArgs false
set_option linter.unusedVariables false

abbrev M77 : Ev := ⟨0, -77, 0, 0, 0, 0, 0, .zero, .zero⟩
abbrev M78 : Ev := ⟨0, -78, 0, 0, 0, 0, 0, .zero, .zero⟩
theorem ecells_append (a b : List Ev) : ecells (a ++ b) = ecells a ++ ecells b := by simp [ecells]
theorem ecells_one (l : List Ev) : ∀ u ∈ ecells l, u.oneCell' = true := by
  intro u hu
  simp only [ecells, List.mem_flatMap] at hu
  obtain ⟨e, _, he⟩ := hu
  simp only [Ev.cells, List.mem_cons, List.not_mem_nil, or_false] at he
  rcases he with rfl | rfl | rfl | rfl | rfl | rfl | rfl | rfl | rfl | rfl | rfl | rfl | rfl | rfl | rfl <;> rfl
theorem evs_front {w : World} {A : Option Addr} {c : Nat} {l m : List Ev} (h : EvsAt w A c (l ++ m)) : EvsAt w A c l := by
  obtain ⟨⟨hl, A', c', e1, h0, h1, h2⟩, hok⟩ := h
  simp only [Value.slice.injEq, true_and] at e1
  obtain ⟨rfl, rfl⟩ := e1
  refine ⟨⟨ecells_len l, A, c, rfl, fun h => ?_, ?_, fun hp => ?_⟩, fun e he => hok e (by simp [he])⟩
  · have := h0 h
    simp only [List.length_append] at this
    omega
  · simp only [List.length_append] at h1
    omega
  · obtain ⟨b, off, rfl, hb, hc⟩ := h2 (by simp only [List.length_append]; omega)
    refine ⟨b, off, rfl, hb, fun i u hu => hc i u ?_⟩
    rw [ecells_append, List.getElem?_append_left (List.getElem?_eq_some_iff.1 hu).1]
    exact hu
theorem infoEv : (Tryz.prog.info? 78).map (fun i => (i.zero, i.size, i.bytes)) = some (some (.agg #[.int .i64 0, .int .i64 0, .int .i64 0, .int .i64 0, .int .i64 0, .int .i64 0, .int .i64 0, .int .u32 0, .int .u32 0, .int .u32 0, .int .u32 0, .int .u32 0, .int .u32 0, .int .u32 0, .int .u32 0]), 15, 88) := by kernel_rfl
theorem slice_front (W : World) (a : Addr) (n cap k : Nat) (j : Int) (hj : j = k) (hk : k ≤ cap) : (Instr.slice 26 (.slice (some a) n cap) none (some (.int .i64 j)) none).run Tryz.prog W = .ok (.slice (some a) k cap) W := by
  subst hj
  have hsz : (sizeOf 78).run Tryz.prog W = .ok 15 W := by
    obtain ⟨i0, hi, _⟩ := info_parts infoEv
    rw [run_sizeOf W hi]
    rfl
  have ha : a.add 0 = a := by simp [Addr.add]
  simp [Instr.slice, Instr.sliceBounds, Instr.sliceBound, run_underlying Tryz.underlying26, asIntOf, hk, hsz, ha]
/-- What lent answers: a new slice, marks behind it. -/
def LentEv (l : List Ev) (w : World) : Ending → World → Prop := fun e w' =>
  ∃ g cap, e = .returned (.slice (some ⟨g, 0, none⟩) l.length cap) ∧ l.length + 2 ≤ cap ∧ EvsAt w' (some ⟨g, 0, none⟩) cap (l ++ [M77, M78]) ∧ ∃ gr : Grows w, w' = gr.w
theorem lent_fin {l : List Ev} {w w' : World} {g cap : Nat} (hok : ∀ e ∈ l, Ev.ok e) (hown : w'.ownsRow w.heap.size 78 15 (.slice (some ⟨g, 0, none⟩) (l.length + 2) cap) (l.length + 2) (ecells (l ++ [M77, M78]))) (hC : Chg Noth w w') :
    l.length + 2 ≤ cap ∧ EvsAt w' (some ⟨g, 0, none⟩) cap (l ++ [M77, M78]) ∧ ∃ gr : Grows w, w' = gr.w := by
  have hlt := hown.lt g rfl
  have hl := ecells_len (l ++ [M77, M78])
  simp only [List.length_append, List.length_cons, List.length_nil] at hl
  have hcap : l.length + 2 ≤ cap := by
    rcases hown.2 with ⟨h, _⟩ | ⟨g', cap', cur, h, _, _, hc, _⟩
    · simp at h
    · simp only [Value.slice.injEq] at h
      omega
  refine ⟨hcap, ⟨?_, fun e he => ?_⟩, ⟨w', hC⟩, rfl⟩
  · have := SL.of_own hown
    simpa using this
  · rcases List.mem_append.1 he with h | h
    · exact hok e h
    · simp only [List.mem_cons, List.not_mem_nil, or_false] at h
      rcases h with rfl | rfl <;> exact Ev.zero_ok
theorem lent19_any (A : Option Addr) (c : Nat) (l : List Ev) (w : World) (hE : EvsAt w A c l) (hn : l.length ≤ 5000) : Calls Tryz.prog 8 #[.slice A l.length c] w (LentEv l w) := by
  obtain ⟨i0, hi, hz0, hz1, hz2⟩ := info_parts infoEv
  have hl := ecells_len l
  have hl2 := ecells_len (l ++ [M77, M78])
  simp only [List.length_append, List.length_cons, List.length_nil] at hl2
  have h1 := ecells_one l
  have hEq : ecells (l ++ [M77, M78]) = ecells l ++ [.int .i64 0, .int .i64 (-77), .int .i64 0, .int .i64 0, .int .i64 0, .int .i64 0, .int .i64 0, .int .u32 0, .int .u32 0, .int .u32 0, .int .u32 0, .int .u32 0, .int .u32 0, .int .u32 0, .int .u32 0, .int .i64 0, .int .i64 (-78), .int .i64 0, .int .i64 0, .int .i64 0, .int .i64 0, .int .i64 0, .int .u32 0, .int .u32 0, .int .u32 0, .int .u32 0, .int .u32 0, .int .u32 0, .int .u32 0, .int .u32 0] := by rw [ecells_append]; rfl
  have HEQ := Lib.hid hEq
  clear hEq
  have hok := hE.2
  have h0 : A = none → l.length = 0 ∧ c = 0 := by
    obtain ⟨⟨_, A', c', e1, h0, _⟩, _⟩ := hE
    simp only [Value.slice.injEq, true_and] at e1
    obtain ⟨rfl, rfl⟩ := e1
    exact h0
  have key : ∀ v1 w1, w1.ownsRow w.heap.size 78 15 v1 l.length (ecells l) → Chg Noth w w1 → True := fun _ _ _ _ => trivial
  clear key
  rcases A with _ | ad
  · obtain ⟨hl0, rfl⟩ := h0 rfl
    obtain rfl := List.eq_nil_of_length_eq_zero hl0
    clear h0 hE
    simp only [List.length_nil, List.nil_append] at *
    go_enter Tryz.func8, Tryz.ntmps8
    go_wp2_with (first
      | (at_builtin; refine wpList_append_own _ rfl (.tmp 6) (.tmp 9) 26 rfl w.heap.size 78 i0 _ 15 88 Tryz.underlying26 hi hz0 hz1 hz2 rfl (by decide) (.slice none 0 0) 0 [] rfl (World.ownsRow_nil _ _ _ _) ⟨w.heap.size, 0, none⟩ 2 2 [.int .i64 0, .int .i64 (-77), .int .i64 0, .int .i64 0, .int .i64 0, .int .i64 0, .int .i64 0, .int .u32 0, .int .u32 0, .int .u32 0, .int .u32 0, .int .u32 0, .int .u32 0, .int .u32 0, .int .u32 0, .int .i64 0, .int .i64 (-78), .int .i64 0, .int .i64 0, .int .i64 0, .int .i64 0, .int .i64 0, .int .u32 0, .int .u32 0, .int .u32 0, .int .u32 0, .int .u32 0, .int .u32 0, .int .u32 0, .int .u32 0] rfl rfl (World.news_of_block (cs := #[.int .i64 0, .int .i64 (-77), .int .i64 0, .int .i64 0, .int .i64 0, .int .i64 0, .int .i64 0, .int .u32 0, .int .u32 0, .int .u32 0, .int .u32 0, .int .u32 0, .int .u32 0, .int .u32 0, .int .u32 0, .int .i64 0, .int .i64 (-78), .int .i64 0, .int .i64 0, .int .i64 0, .int .i64 0, .int .i64 0, .int .u32 0, .int .u32 0, .int .u32 0, .int .u32 0, .int .u32 0, .int .u32 0, .int .u32 0, .int .u32 0]) (heap_alloc_new _ _)) (by intro u hu; simp only [List.mem_cons, List.not_mem_nil, or_false] at hu; rcases hu with rfl | rfl | rfl | rfl | rfl | rfl | rfl | rfl | rfl | rfl | rfl | rfl | rfl | rfl | rfl | rfl | rfl | rfl | rfl | rfl | rfl | rfl | rfl | rfl | rfl | rfl | rfl | rfl | rfl | rfl <;> rfl) (by simp only [maxLen]; omega) (by omega) (by simp) ?_; intro v1 w1 hown1 hg1 _)
      | (at_builtin; refine wpList_append_own_none rfl _ _ 26 rfl w.heap.size 78 i0 15 Tryz.underlying26 hi (.slice none 0 0) 0 [] rfl (World.ownsRow_nil _ _ _ _) rfl ?_))
    have hC : Chg Noth w w1 := Chg.trans (G := fun k => (Value.slice none 0 0).ownBlock = some k) (chg_alloc (Chg.refl _ _) _) (Chg.of_grown hg1) (fun k hk e => by simp [Value.ownBlock] at e)
    clear hg1
    simp only [Nat.zero_add, List.nil_append] at hown1
    obtain ⟨g, cap, rfl, _⟩ := hown1.form (by omega)
    have e30 : ecells ([] ++ [M77, M78]) = [.int .i64 0, .int .i64 (-77), .int .i64 0, .int .i64 0, .int .i64 0, .int .i64 0, .int .i64 0, .int .u32 0, .int .u32 0, .int .u32 0, .int .u32 0, .int .u32 0, .int .u32 0, .int .u32 0, .int .u32 0, .int .i64 0, .int .i64 (-78), .int .i64 0, .int .i64 0, .int .i64 0, .int .i64 0, .int .i64 0, .int .u32 0, .int .u32 0, .int .u32 0, .int .u32 0, .int .u32 0, .int .u32 0, .int .u32 0, .int .u32 0] := rfl
    obtain ⟨q1, q2, q3⟩ := lent_fin (l := []) (fun e he => by simp at he) (by rw [e30]; exact hown1) hC
    have HQ := Lib.hid (And.intro q1 (And.intro q2 q3))
    simp only [List.length_nil, Nat.zero_add] at q1
    have hsl := slice_front w1 ⟨g, 0, none⟩ 2 cap 0 0 rfl (by omega)
    clear hown1 q2 q3 hC e30
    rw [hsl]
    go_wp2
    go_ret
    exact ⟨g, cap, rfl, HQ.out⟩
  · have hc := hE.1.addr
    clear h0
    have hb0 := hE
    clear hE
    generalize hlen : l.length = len at *
    have HLEN := Lib.hid hlen
    clear hlen
    go_enter Tryz.func8, Tryz.ntmps8
    go_wp2_with (first
      | (at_builtin; refine wpList_append_own _ rfl (.tmp 6) (.tmp 9) 26 rfl w.heap.size 78 i0 _ 15 88 Tryz.underlying26 hi hz0 hz1 hz2 rfl (by decide) _ _ _ rfl (hown1.alloc _) ⟨w1.heap.size, 0, none⟩ 2 2 [.int .i64 0, .int .i64 (-77), .int .i64 0, .int .i64 0, .int .i64 0, .int .i64 0, .int .i64 0, .int .u32 0, .int .u32 0, .int .u32 0, .int .u32 0, .int .u32 0, .int .u32 0, .int .u32 0, .int .u32 0, .int .i64 0, .int .i64 (-78), .int .i64 0, .int .i64 0, .int .i64 0, .int .i64 0, .int .i64 0, .int .u32 0, .int .u32 0, .int .u32 0, .int .u32 0, .int .u32 0, .int .u32 0, .int .u32 0, .int .u32 0] rfl rfl (World.news_of_block (cs := #[.int .i64 0, .int .i64 (-77), .int .i64 0, .int .i64 0, .int .i64 0, .int .i64 0, .int .i64 0, .int .u32 0, .int .u32 0, .int .u32 0, .int .u32 0, .int .u32 0, .int .u32 0, .int .u32 0, .int .u32 0, .int .i64 0, .int .i64 (-78), .int .i64 0, .int .i64 0, .int .i64 0, .int .i64 0, .int .i64 0, .int .u32 0, .int .u32 0, .int .u32 0, .int .u32 0, .int .u32 0, .int .u32 0, .int .u32 0, .int .u32 0]) (heap_alloc_new _ _)) (by intro u hu; simp only [List.mem_cons, List.not_mem_nil, or_false] at hu; rcases hu with rfl | rfl | rfl | rfl | rfl | rfl | rfl | rfl | rfl | rfl | rfl | rfl | rfl | rfl | rfl | rfl | rfl | rfl | rfl | rfl | rfl | rfl | rfl | rfl | rfl | rfl | rfl | rfl | rfl | rfl <;> rfl) (by simp only [maxLen]; omega) (by omega) (by have := hC1.size; simp; omega) ?_; intro v2 w2 hown2 hg2 _)
      | (at_builtin; refine wpList_append_own _ rfl _ _ 26 rfl w.heap.size 78 i0 _ 15 88 Tryz.underlying26 hi hz0 hz1 hz2 rfl (by decide) (.slice none 0 0) 0 [] rfl (World.ownsRow_nil _ _ _ _) ad len c (ecells l) rfl hl hc h1 (by simp only [maxLen]; omega) (by omega) (Nat.le_refl _) ?_; intro v1 w1 hown1 hg1 _; have hC1 : Chg Noth w w1 := (Chg.of_grown hg1).mono (fun k hk e => by simp [Value.ownBlock] at e); simp only [Nat.zero_add, List.nil_append] at hown1))
    have hbs := hown1.lt
    have hC2 : Chg Noth w w2 := Chg.trans (G := fun k => v1.ownBlock = some k) (chg_alloc hC1 _) (Chg.of_grown hg2) (fun k hk e => by have := (hbs k e).1; omega)
    clear hg2 hbs
    rw [← HEQ.out] at hown2
    obtain ⟨g, cap, rfl, _⟩ := hown2.form (by omega)
    obtain ⟨q1, q2, q3⟩ := lent_fin hok (by rw [HLEN.out]; exact hown2) hC2
    have HQ := Lib.hid (And.intro q1 (And.intro q2 q3))
    rw [HLEN.out] at q1
    have hsl := slice_front w2 ⟨g, 0, none⟩ (len + 2) cap len len rfl (by omega)
    clear hown2 hown1 q2 q3 hC2 hC1 hok hb0
    rw [hsl]
    go_wp2
    go_ret
    exact ⟨g, cap, (by rw [HLEN.out]; rfl), HQ.out⟩
end Go.Proofs.YteemkceceaabkaaGreat
