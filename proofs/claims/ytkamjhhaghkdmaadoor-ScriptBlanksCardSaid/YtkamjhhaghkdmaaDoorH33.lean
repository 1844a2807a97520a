/- word.Lines: the words of each line. -/
import Derived.Test.YtkamjhhaghkdmaaDoorH32
namespace Go.Ear
set_option linter.unusedSimpArgs false
set_option linter.unusedVariables false
/-- Where the lines lie: from where on, how many words. -/
def segs : List Int → Nat → Nat → List (Nat × Nat) → List (Nat × Nat)
  | [], i, from', acc => if from' < i then acc ++ [(from', i - from')] else acc
  | k :: r, i, from', acc => if k = 1 then segs r (i + 1) (i + 1) (acc ++ [(from', i - from')]) else segs r (i + 1) from' acc
/-- No line is empty. -/
def good : List Int → Nat → Nat → Prop
  | [], _, _ => True
  | k :: r, i, from' => (k = 1 → from' < i) ∧ good r (i + 1) (if k = 1 then i + 1 else from')
end Go.Ear
namespace Go.Proofs.YtkamjhhaghkdmaaDoor
open Go.RowKit Go.Ear Go.Proofs.YtkamjhhaghkdmaaDoorW.PrintWords Go.Proofs.YtkamjhhaghkdmaaDoor.PScriptLines
set_option maxHeartbeats 4000000
set_option maxRecDepth 100000
set_option linter.unusedSimpArgs false
set_option linter.unusedVariables false
theorem flT_one (l : List (Nat × Wd)) : ∀ u ∈ flT l, u.oneCell' = true := by
  intro u hu
  simp only [flT, List.mem_flatMap, tv] at hu
  obtain ⟨x, _, hx⟩ := hu
  simp at hx
  rcases hx with rfl | rfl | rfl | rfl <;> rfl
theorem cloneTok_some (ad : Addr) (c : Nat) (l : List (Nat × Wd)) (w : World) (hc : ∀ j u, (flT l)[j]? = some u → w.cell? (ad.add j) = some u) (hn : l.length ≤ 1000000000000) :
    Calls Tryd.prog 43 #[.slice (some ad) l.length c] w fun e w' => ∃ v, e = .returned v ∧ w'.ownsRow w.heap.size 33 4 v l.length (flT l) ∧ Chg Noth w w' := by
  obtain ⟨i0, hi, hz0, hz1, hz2⟩ := info_parts infoTok
  have h1 := flT_one l
  have hc' : ∀ j u, (flT l)[j]? = some u → (w.alloc (.cells #[] 33)).cell? (ad.add j) = some u := fun j u hu => by
    have := hc j u hu
    rw [World.cell?_alloc_lt _ _ _ (block_lt_of_cell this)]
    exact this
  have e1 := fun (w : World) (a : Option Addr) (n c : Nat) => Lib.run_eql_slice_nil (P := Tryd.prog) w 29 33 a n c 0 0 Tryd.underlying29
  go_enter Tryd.func43, Tryd.ntmps43
  go_wp2_with (at_builtin; refine wpList_append_own _ rfl _ _ 29 rfl w.heap.size 33 i0 _ 4 40 Tryd.underlying29 hi hz0 hz1 hz2 rfl (by decide) (.slice (some ⟨w.heap.size, 0, none⟩) 0 0) 0 [] rfl (World.ownsRow_lit _ #[] 0 (Nat.le_refl _) (by simp [maxLen]) rfl) ad l.length c (flT l) rfl (flT_len l) hc' h1 (by simp only [maxLen]; omega) (by omega) (by simp) ?_; intro v1 w1 hown1 hg1 _)
  go_ret
  simp only [Nat.zero_add, List.nil_append] at hown1
  exact ⟨v1, rfl, hown1, (chg_alloc (Chg.refl _ _) _).trans (Chg.of_grown hg1) (fun i hi e => by simp [Value.ownBlock] at e; omega)⟩
theorem cloneTok_none (w : World) : Calls Tryd.prog 43 #[.slice none 0 0] w fun e w' => ∃ v, e = .returned v ∧ w'.ownsRow w.heap.size 33 4 v 0 [] ∧ Chg Noth w w' := by
  have e1 := fun (w : World) (a : Option Addr) (n c : Nat) => Lib.run_eql_slice_nil (P := Tryd.prog) w 29 33 a n c 0 0 Tryd.underlying29
  go_enter Tryd.func43, Tryd.ntmps43
  go_wp2_with fail
  go_ret
  exact ⟨_, rfl, World.ownsRow_nil _ _ _ _, Chg.refl _ _⟩
theorem cloneTok_any (v : Value) (l : List (Nat × Wd)) (w : World) (h : SL w v l.length 4 (flT l)) (hn : l.length ≤ 1000000000000) :
    Calls Tryd.prog 43 #[v] w fun e w' => ∃ A c, e = .returned (.slice A l.length c) ∧ w'.ownsRow w.heap.size 33 4 (.slice A l.length c) l.length (flT l) ∧ Chg Noth w w' := by
  have h' := h
  obtain ⟨_, A, c, rfl, h0, _⟩ := h
  rcases A with _ | ad
  · obtain ⟨e0, rfl⟩ := h0 rfl
    obtain rfl := List.eq_nil_of_length_eq_zero e0
    refine (cloneTok_none w).mono ?_
    rintro e w' ⟨v', rfl, ho, hg⟩
    obtain ⟨A, c, rfl⟩ := own_shape ho
    exact ⟨A, c, rfl, ho, hg⟩
  · refine (cloneTok_some ad c l w h'.addr hn).mono ?_
    rintro e w' ⟨v', rfl, ho, hg⟩
    obtain ⟨A, c, rfl⟩ := own_shape ho
    exact ⟨A, c, rfl, ho, hg⟩
theorem tokT_cells {w : World} {base g cap i : Nat} {l : List (Nat × Wd)} {ln : Nat} {y : Wd} (h : w.ownsRow base 33 4 (.slice (some ⟨g, 0, none⟩) l.length cap) l.length (flT l)) (hy : l[i]? = some (ln, y)) :
    w.cell? ⟨g, i * 4, none⟩ = some (.int .i64 y.kind) ∧ w.cell? ⟨g, i * 4 + 1, none⟩ = some (.string ⟨y.text.toArray⟩) ∧ w.cell? ⟨g, i * 4 + 2, none⟩ = some (.int .i64 (ln : Int)) ∧ w.cell? ⟨g, i * 4 + 3, none⟩ = some (.int .i64 (y.col : Int)) := by
  have hi : i < l.length := (List.getElem?_eq_some_iff.1 hy).1
  have e : flT l = flT (l.take i) ++ (tv ln y ++ flT (l.drop (i + 1))) := by
    have e1 : l = l.take i ++ (ln, y) :: l.drop (i + 1) := by
      have e2 : l.drop i = (ln, y) :: l.drop (i + 1) := by rw [List.drop_eq_getElem_cons hi, (List.getElem?_eq_some_iff.1 hy).2]
      rw [← e2, List.take_append_drop]
    conv => lhs; rw [e1]
    simp [flT]
  have e1 : (flT (l.take i)).length = i * 4 := by rw [flT_len]; simp; omega
  have e2 : ∀ j, j < 4 → (flT l)[i * 4 + j]? = (tv ln y)[j]? := fun j hj => by
    rw [e, List.getElem?_append_right (by omega), e1, List.getElem?_append_left (by simp [tv]; omega)]
    congr 1
    omega
  have e3 : ∀ j, j < 4 → w.cell? ⟨g, i * 4 + j, none⟩ = (tv ln y)[j]? := fun j hj => (h.cellAt _ (by omega)).trans (e2 j hj)
  exact ⟨e3 0 (by omega), e3 1 (by omega), e3 2 (by omega), e3 3 (by omega)⟩
/-- The values of the lines. -/
def segV (g : Nat) (sg : List (Nat × Nat)) : List Value := sg.map fun x => .slice (some ⟨g, x.1 * 4, none⟩) x.2 x.2
theorem infoSl : (Tryd.prog.info? 29).map (fun i => (i.zero, i.size, i.bytes)) = some (some (.slice none 0 0), 1, 24) := by kernel_rfl
theorem lines_any (v : Value) (l : List (Nat × Wd)) (w : World) (h : SL w v l.length 4 (flT l)) (hn : l.length ≤ 5000000000) (hg : good (l.map fun x => x.2.kind) 0 0) :
    Calls Tryd.prog 29 #[v] w fun e w' => ∃ A g c v2, e = .returned v2 ∧ Chg Noth w w' ∧ w'.ownsRow w.heap.size 33 4 (.slice A l.length c) l.length (flT l) ∧ (0 < l.length → A = some ⟨g, 0, none⟩) ∧
      w'.ownsRow w.heap.size 29 1 v2 (segs (l.map fun x => x.2.kind) 0 0 []).length (segV g (segs (l.map fun x => x.2.kind) 0 0 [])) := by
  have hcl := cloneTok_any v l w h (by omega)
  obtain ⟨n, hnl⟩ : ∃ n, l.length = n := ⟨_, rfl⟩
  rw [hnl] at hcl ⊢
  obtain ⟨K, hK⟩ : ∃ K, l.map (fun x => x.2.kind) = K := ⟨_, rfl⟩
  obtain ⟨S, hS⟩ : ∃ S, segs K 0 0 [] = S := ⟨_, rfl⟩
  rw [hK] at hg ⊢
  rw [hS]
  have HG := Lib.hid (And.intro hg hn)
  have hKl : K.length = n := by rw [← hK]; simp [hnl]
  have HK := Lib.hid (And.intro hK (And.intro hS (And.intro hKl hnl)))
  clear hg hn h hK hS hKl hnl
  go_enter Tryd.func29, Tryd.ntmps29
  go_wp2_with (go_at_call 43; refine hcl.mono ?_; rintro e X ⟨A, c, rfl, ho, hcX⟩)
  obtain ⟨hK, hS, hKl, hnl⟩ := HK.out
  have hncap : n ≤ c := by
    rcases ho.2 with ⟨e, h0⟩ | ⟨g, cap, cur, e, _, _, hle, _⟩
    · omega
    · simp only [Value.slice.injEq, true_and] at e; omega
  obtain ⟨g, hA⟩ : ∃ g, 0 < n → A = some ⟨g, 0, none⟩ ∧ w.heap.size ≤ g ∧ g < X.heap.size := by
    by_cases h0 : 0 < n
    · obtain ⟨g, cap, e, h1, h2⟩ := ho.form h0
      exact ⟨g, fun _ => ⟨by simp only [Value.slice.injEq, true_and] at e; exact e.1, h1, h2⟩⟩
    · exact ⟨0, fun h => absurd h h0⟩
  have HX := Lib.hid (And.intro ho (And.intro hcX (And.intro hA (And.intro hK (And.intro hS (And.intro hKl (And.intro hnl hncap)))))))
  clear ho hcX hA hK hS hKl hnl hcl
  go_loopw [4, 5, 12] (fun v4 v5 v12 wr => ∃ (k f : Nat) (sg : List (Nat × Nat)) (Ao : Option Addr) (co : Nat), v12 = .int .i64 k ∧ v5 = .int .i64 f ∧ v4 = .slice Ao sg.length co ∧ k ≤ n ∧ f ≤ k ∧ sg.length ≤ k ∧ segs (K.drop k) k f sg = S ∧ good (K.drop k) k f ∧ Chg Noth X wr ∧ wr.ownsRow X.heap.size 29 1 (.slice Ao sg.length co) sg.length (segV g sg)) (fun v4 v5 v12 wr => n - (intOf v12).toNat)
  case atStart => exact ⟨0, 0, [], none, 0, rfl, rfl, rfl, Nat.zero_le _, Nat.le_refl _, Nat.le_refl _, HX.out.2.2.2.2.1, HG.out.1, Chg.refl _ _, World.ownsRow_nil _ _ _ _⟩
  case round =>
    obtain ⟨k, f, sg, Ao, co, rfl, rfl, rfl, hk, hf, hsl, hseg, hgd, hc, ho⟩ := hrel
    have hX := HX.out
    have hnb : n ≤ 5000000000 := by have h1 := HG.out.2; have h2 := HK.out.2.2.2; omega
    by_cases hlt : k < n
    · have x1 : decide (k < n) = true := decide_eq_true hlt
      have hkl : k < l.length := by omega
      obtain ⟨⟨ln, y⟩, hy⟩ : ∃ y, l[k]? = some y := ⟨_, List.getElem?_eq_getElem hkl⟩
      obtain ⟨rfl, hg1, hg2⟩ := hX.2.2.1 (by omega)
      have hown : wr.ownsRow w.heap.size 33 4 (.slice (some ⟨g, 0, none⟩) l.length c) l.length (flT l) := by rw [hX.2.2.2.2.2.2.1]; exact own_chg hX.1 hc (fun _ _ e => e)
      obtain ⟨y0, y1, y2, y3⟩ := tokT_cells hown hy
      have jg : Old g wr := ⟨Nat.lt_of_lt_of_le hg2 hc.size⟩
      have hKd : K.drop k = y.kind :: K.drop (k + 1) := by
        have e : K[k]? = some y.kind := by rw [← hX.2.2.2.1, List.getElem?_map, hy]; rfl
        rw [List.drop_eq_getElem_cons (List.getElem?_eq_some_iff.1 e).1, (List.getElem?_eq_some_iff.1 e).2]
      rw [hKd] at hseg hgd
      simp only [segs] at hseg
      simp only [good] at hgd
      obtain ⟨kd, hkd⟩ : ∃ kd, y.kind = kd := ⟨_, rfl⟩
      rw [hkd] at y0 hseg hgd
      obtain ⟨k1, hk1⟩ : ∃ k1, k + 1 = k1 := ⟨_, rfl⟩
      have wk : wrap64 ((k : Int) + 1) = (k1 : Int) := by rw [wid] <;> omega
      have HK1 := Lib.hid hk1
      clear hk1
      have gi : (k : Int) < (n : Int) := by omega
      have g0 : (0 : Int) ≤ (k : Int) := by omega
      by_cases h1 : kd = 1
      · subst h1
        rw [if_pos rfl] at hseg hgd
        have hfk := hgd.1 rfl
        have n1 : ¬ k = f := by omega
        have n2 : ¬ f = k := by omega
        have n3 : ¬ k ≤ f := by omega
        have n4 : ¬ k - f = 0 := by omega
        have n5 : ¬ (k : Int) = (f : Int) := by omega
        have n6 : ¬ (f : Int) = (k : Int) := by omega
        have g1 : (f : Int) ≤ (k : Int) := by omega
        obtain ⟨i0, hi, hz0, hz1, hz2⟩ := info_parts infoSl
        have g2 : (k : Int) ≤ (c : Int) := by omega
        have g3 : (0 : Int) ≤ (f : Int) := by omega
        have HR := Lib.hid (And.intro hseg (And.intro hgd.2 (And.intro hc (And.intro ho (And.intro hk (And.intro hf (And.intro hsl (And.intro hlt (And.intro hfk hnb)))))))))
        clear hseg hgd hc ho hk hf hsl hlt hfk hnb hX hkl hy hown hKd hg1 hg2
        go_wp2_with (at_builtin; refine wpList_append_own _ rfl _ _ 79 rfl X.heap.size 29 i0 _ 1 24 Tryd.underlying79 hi hz0 hz1 hz2 rfl (by decide) (.slice Ao sg.length co) sg.length (segV g sg) rfl (own_chg (F := Noth) HR.out.2.2.2.1 (by repeat (with_reducible first | exact Chg.refl _ _ | refine chg_alloc ?_ _)) (fun _ _ e => e)) ⟨_, 0, none⟩ 1 1 [.slice (some ⟨g, f * 4, none⟩) (k - f) (k - f)] rfl rfl (World.news_of_block (cs := #[.slice (some ⟨g, f * 4, none⟩) (k - f) (k - f)]) (heap_hs _ _ _)) (by intro u hu; simp at hu; subst hu; rfl) (by have h := HR.out; simp only [maxLen]; omega) (by have h := HR.out; omega) (by have h := HR.out.2.2.1.size; simp; omega) ?_; intro v' w1 hown' hgrow _; obtain ⟨g', cap', rfl⟩ := ownsRow_succ hown')
        have h := HR.out
        have hC1 : Chg Noth X w1 := (chg_alloc (chg_alloc h.2.2.1 _) _).trans (Chg.of_grown hgrow) (fun i hi e => by have := (h.2.2.2.1.lt i e).1; omega)
        have HO := Lib.hid (And.intro hown' hC1)
        clear hown' hgrow hC1 h
        go_wp2_with fail
        go_roundw
        case rel =>
          have h := HR.out
          have hk1 := HK1.out
          subst hk1
          refine ⟨k + 1, k + 1, sg ++ [(f, k - f)], some ⟨g', 0, none⟩, cap', by first | rfl | rw [wk], by first | rfl | rw [wk], by simp, by omega, Nat.le_refl _, by simp; omega, h.1, h.2.1, HO.out.2, ?_⟩
          have e1 : (sg ++ [(f, k - f)]).length = sg.length + 1 := by simp
          have e2 : segV g (sg ++ [(f, k - f)]) = segV g sg ++ [.slice (some ⟨g, f * 4, none⟩) (k - f) (k - f)] := by simp [segV]
          rw [e1, e2]
          exact HO.out.1
        case measure => have h := HR.out; have hk1 := HK1.out; (try rw [wk]); simp [intOf]; omega
      · rw [if_neg h1] at hseg hgd
        have z1 : (kd == 1) = false := beq_eq_false_iff_ne.2 h1
        have HR := Lib.hid (And.intro hseg (And.intro hgd.2 (And.intro hc (And.intro ho (And.intro hk (And.intro hf (And.intro hsl (And.intro hlt hnb))))))))
        clear hseg hgd hc ho hk hf hsl hlt hnb hX hkl hy hown hKd hg1 hg2
        go_wp2_with fail
        go_roundw
        case rel =>
          have h := HR.out
          have hk1 := HK1.out
          subst hk1
          exact ⟨k + 1, f, sg, Ao, co, by first | rfl | rw [wk], rfl, rfl, by omega, by omega, by omega, h.1, h.2.1, chg_alloc h.2.2.1 _, own_chg (F := Noth) h.2.2.2.1 (chg_alloc (Chg.refl _ _) _) (fun _ _ e => e)⟩
        case measure => have h := HR.out; have hk1 := HK1.out; (try rw [wk]); simp [intOf]; omega
    · obtain rfl : k = n := by omega
      have hKd : K.drop k = [] := List.drop_of_length_le (by rw [hX.2.2.2.2.2.1]; exact Nat.le_refl _)
      rw [hKd] at hseg
      simp only [segs] at hseg
      have x1 : decide (k < k) = false := decide_eq_false (by omega)
      by_cases hfn : f < k
      · rw [if_pos hfn] at hseg
        obtain ⟨rfl, hg1, hg2⟩ := hX.2.2.1 (by omega)
        have hcap := hX.2.2.2.2.2.2.2
        have x2 : decide (f < k) = true := decide_eq_true hfn
        have n1 : ¬ k = f := by omega
        have n2 : ¬ f = k := by omega
        have n3 : ¬ k ≤ f := by omega
        have n4 : ¬ k - f = 0 := by omega
        have n5 : ¬ (k : Int) = (f : Int) := by omega
        have n6 : ¬ (f : Int) = (k : Int) := by omega
        have g1 : (f : Int) ≤ (k : Int) := by omega
        have g2 : (k : Int) ≤ (c : Int) := by omega
        have g3 : (0 : Int) ≤ (f : Int) := by omega
        obtain ⟨i0, hi, hz0, hz1, hz2⟩ := info_parts infoSl
        have HR := Lib.hid (And.intro hseg (And.intro hc (And.intro ho (And.intro hf (And.intro hsl hnb)))))
        clear hseg hgd hc ho hk hf hsl hlt hnb hX hKd hg1 hg2 hcap hfn
        go_wp2_with (at_builtin; refine wpList_append_own _ rfl _ _ 79 rfl X.heap.size 29 i0 _ 1 24 Tryd.underlying79 hi hz0 hz1 hz2 rfl (by decide) (.slice Ao sg.length co) sg.length (segV g sg) rfl (own_chg (F := Noth) HR.out.2.2.1 (by repeat (with_reducible first | exact Chg.refl _ _ | refine chg_alloc ?_ _)) (fun _ _ e => e)) ⟨_, 0, none⟩ 1 1 [.slice (some ⟨g, f * 4, none⟩) (k - f) (k - f)] rfl rfl (World.news_of_block (cs := #[.slice (some ⟨g, f * 4, none⟩) (k - f) (k - f)]) (heap_hs _ _ _)) (by intro u hu; simp at hu; subst hu; rfl) (by have h := HR.out; simp only [maxLen]; omega) (by have h := HR.out; omega) (by have h := HR.out.2.1.size; simp; omega) ?_; intro v' w1 hown' hgrow _; obtain ⟨g', cap', rfl⟩ := ownsRow_succ hown')
        have h := HR.out
        have hX := HX.out
        have hC1 : Chg Noth X w1 := (chg_alloc h.2.1 _).trans (Chg.of_grown hgrow) (fun i hi e => by have := (h.2.2.1.lt i e).1; omega)
        go_ret
        refine ⟨_, g, c, _, rfl, hX.2.1.trans hC1 (fun _ _ e => e), own_chg hX.1 hC1 (fun _ _ e => e), fun _ => rfl, ?_⟩
        rw [← h.1]
        have e1 : (sg ++ [(f, k - f)]).length = sg.length + 1 := by simp
        have e2 : segV g (sg ++ [(f, k - f)]) = segV g sg ++ [.slice (some ⟨g, f * 4, none⟩) (k - f) (k - f)] := by simp [segV]
        rw [e1, e2]
        exact own_base hown' hX.2.1.size
      · rw [if_neg hfn] at hseg
        have x2 : decide (f < k) = false := decide_eq_false hfn
        have HR := Lib.hid (And.intro hseg (And.intro hc (And.intro ho hX)))
        clear hseg hgd hc ho hk hf hsl hlt hnb hX hKd hfn
        go_wp2
        go_ret
        have h := HR.out
        have hX := h.2.2.2
        refine ⟨_, g, c, _, rfl, hX.2.1.trans h.2.1 (fun _ _ e => e), own_chg hX.1 h.2.1 (fun _ _ e => e), fun h0 => (hX.2.2.1 h0).1, ?_⟩
        rw [← h.1]
        exact own_base h.2.2.1 hX.2.1.size
end Go.Proofs.YtkamjhhaghkdmaaDoor
