/- script: the first line read. script: the first line read, where its words are those. -/
import Derived.Test.YtkamjhhaghkdmaaDoorH44
namespace Go.Proofs.YtkamjhhaghkdmaaDoor
open Go.RowKit Go.Ear Go.Shelf
set_option maxHeartbeats 4000000
set_option maxRecDepth 100000
set_option linter.unusedSimpArgs false
set_option linter.unusedVariables false
/-- What the first line comes to. -/
def HeadPost (w : World) (p base : Nat) (R : Except Int (List UInt8 × List Int × Int)) : Ending → World → Prop := fun e X => match R with
  | .error er => er ≠ 0 ∧ e = .returned (.int .i64 er) ∧ Chg (fun k => k = p) w X
  | .ok (b, l, f) => e = .returned (.int .i64 0) ∧ Chg (fun k => k = p) w X ∧ RdIs X p base b f l [] (.slice none 0 0) []
theorem headS_len {ws : List Wd} (h : ws.length ≠ 4) : headS ws = .error 200 := by
  rcases ws with _ | ⟨w0, _ | ⟨w1, _ | ⟨w2, _ | ⟨w3, _ | ⟨w4, r⟩⟩⟩⟩⟩ <;> first | rfl | exact absurd rfl h
theorem head_len (p base : Nat) (ws : List Wd) (A : Option Addr) (n c : Nat) (w : World) (hn : n = ws.length) (h : ws.length ≠ 4) : Calls Tryd.prog 19 #[.pointer (some ⟨p, 0, none⟩), .slice A n c] w (HeadPost w p base (headS ws)) := by
  rw [headS_len h]
  have x1 : ((n : Int) == 4) = false := beq_eq_false_iff_ne.2 (by omega)
  have x2 : ((n : Int) != 4) = true := by simp [bne, x1]
  clear hn h
  go_enter Tryd.func19, Tryd.ntmps19
  go_wp2_with fail
  go_ret
  exact ⟨by decide, rfl, Chg.refl _ _⟩
/-- The five ways of a first line's words. -/
def headOk (w0 w1 w2 w3 : Wd) : Prop := w0.kind = 2 ∧ w0.text = [110, 111, 100, 101, 115] ∧ w2.kind = 2 ∧ w2.text = [102, 97, 117, 108, 116, 115] ∧ w1.kind = 4 ∧ w3.kind = 3
instance (w0 w1 w2 w3 : Wd) : Decidable (headOk w0 w1 w2 w3) := by unfold headOk; infer_instance
theorem isName_b (y : Wd) (l : List UInt8) : (y.kind == 2 && ((⟨y.text.toArray⟩ : ByteArray).toList == (⟨l.toArray⟩ : ByteArray).toList)) = (decide (y.kind = 2) && decide (y.text = l)) := by
  simp only [Lib.toList_data, List.toList_toArray]
  congr 1
  by_cases h : y.text = l
  · rw [decide_eq_true h, h]; simp
  · rw [decide_eq_false h]; exact beq_eq_false_iff_ne.2 h
theorem head_bad (p base : Nat) (no : Nat) (w0 w1 w2 w3 : Wd) (A : Option Addr) (c : Nat) (w : World) (hw : SL w (.slice A 4 c) 4 4 (flT ([w0, w1, w2, w3].map fun y => (no, y)))) (h : ¬ headOk w0 w1 w2 w3) :
    Calls Tryd.prog 19 #[.pointer (some ⟨p, 0, none⟩), .slice A 4 c] w (HeadPost w p base (headS [w0, w1, w2, w3])) := by
  have hR : headS [w0, w1, w2, w3] = .error 200 := by
    unfold headS
    exact if_neg h
  rw [hR]
  obtain ⟨wb, off, rfl, hwb, htk⟩ := tok_at hw rfl (by decide)
  obtain ⟨a0, a1, a2, a3⟩ := htk 0 w0 rfl
  obtain ⟨b0, b1, b2, b3⟩ := htk 1 w1 rfl
  obtain ⟨c0, c1, c2, c3⟩ := htk 2 w2 rfl
  obtain ⟨d0, d1, d2, d3⟩ := htk 3 w3 rfl
  simp only [Nat.zero_mul, Nat.add_zero, Nat.reduceMul, Nat.add_assoc, Nat.reduceAdd] at a0 a1 a2 a3 b0 b1 b2 b3 c0 c1 c2 c3 d0 d1 d2 d3
  have jw : Old wb w := ⟨hwb⟩
  have hin0 := fun W => isName_v no w0 ⟨[110, 111, 100, 101, 115].toArray⟩ W
  have hin2 := fun W => isName_v no w2 ⟨[102, 97, 117, 108, 116, 115].toArray⟩ W
  simp only [isName_b] at hin0 hin2
  have hcases : (decide (w0.kind = 2) && decide (w0.text = [110, 111, 100, 101, 115])) = false ∨ ((decide (w0.kind = 2) && decide (w0.text = [110, 111, 100, 101, 115])) = true ∧ (decide (w2.kind = 2) && decide (w2.text = [102, 97, 117, 108, 116, 115])) = false) ∨
      ((decide (w0.kind = 2) && decide (w0.text = [110, 111, 100, 101, 115])) = true ∧ (decide (w2.kind = 2) && decide (w2.text = [102, 97, 117, 108, 116, 115])) = true ∧ (w1.kind != 4) = true) ∨
      ((decide (w0.kind = 2) && decide (w0.text = [110, 111, 100, 101, 115])) = true ∧ (decide (w2.kind = 2) && decide (w2.text = [102, 97, 117, 108, 116, 115])) = true ∧ (w1.kind != 4) = false ∧ (w3.kind != 3) = true) := by
    unfold headOk at h
    simp only [Bool.and_eq_false_iff, Bool.and_eq_true, decide_eq_true_eq, decide_eq_false_iff_not, bne_iff_ne, ne_eq, bne_eq_false_iff_eq]
    by_cases e0 : w0.kind = 2 <;> by_cases e1 : w0.text = [110, 111, 100, 101, 115] <;> by_cases e2 : w2.kind = 2 <;> by_cases e3 : w2.text = [102, 97, 117, 108, 116, 115] <;> by_cases e4 : w1.kind = 4 <;> by_cases e5 : w3.kind = 3 <;> simp_all
  generalize (decide (w0.kind = 2) && decide (w0.text = [110, 111, 100, 101, 115])) = q0 at *
  generalize (decide (w2.kind = 2) && decide (w2.text = [102, 97, 117, 108, 116, 115])) = q2 at *
  clear htk hw h hR
  rcases hcases with rfl | ⟨rfl, rfl⟩ | ⟨rfl, rfl, x1⟩ | ⟨rfl, rfl, x1, x3⟩
  · go_enter Tryd.func19, Tryd.ntmps19
    go_wp2_with (go_at_call 31; with_reducible refine (hin0 _).mono ?_; rintro e w' ⟨rfl, hc⟩)
    go_ret
    exact ⟨by decide, rfl, hc.mono (fun _ _ h => h.elim)⟩
  · go_enter Tryd.func19, Tryd.ntmps19
    go_wp2_with fail
    go_at_call 31
    with_reducible refine (hin0 _).mono ?_
    rintro e X ⟨rfl, hc⟩
    obtain ⟨m, rfl⟩ := muts_ex hc
    go_wp2_with fail
    go_at_call 31
    with_reducible refine (hin2 _).mono ?_
    rintro e X ⟨rfl, hc2⟩
    go_wp2_with fail
    go_ret
    exact ⟨by decide, rfl, (hc.trans hc2 (fun _ _ h => h)).mono (fun _ _ h => h.elim)⟩
  all_goals
    go_enter Tryd.func19, Tryd.ntmps19
    go_wp2_with fail
    go_at_call 31
    with_reducible refine (hin0 _).mono ?_
    rintro e X ⟨rfl, hc⟩
    obtain ⟨m, rfl⟩ := muts_ex hc
    go_wp2_with fail
    go_at_call 31
    with_reducible refine (hin2 _).mono ?_
    rintro e X ⟨rfl, hc2⟩
    obtain ⟨m2, rfl⟩ := muts_ex hc2
    go_wp2_with fail
    go_ret
    exact ⟨by decide, rfl, (hc.trans hc2 (fun _ _ h => h)).mono (fun _ _ h => h.elim)⟩
end Go.Proofs.YtkamjhhaghkdmaaDoor
namespace Go.Proofs.YtkamjhhaghkdmaaDoor
open Go.RowKit Go.Ear Go.Shelf
set_option maxHeartbeats 4000000
set_option maxRecDepth 100000
set_option linter.unusedSimpArgs false
set_option linter.unusedVariables false
theorem head_end {w W4 X5 : World} {p base : Nat} {b : List UInt8} {l : List Int} {f : Int} {t : ByteArray} {A : Option Addr} {c : Nat} {m : Option Nat} {x0 x1 x2 x3 x4 : Value} (hc : Chg Noth w W4) (hb : w.heap[p]? = some (.cells #[x0, x1, x2, x3, x4, .slice none 0 0] 46))
    (hRI : RosterIs W4 (.agg #[.string t, .slice A l.length c, .map m]) l)
    (hc5 : Chg Noth ((((W4.setCell ⟨p, 2, none⟩ (.string t)).setCell ⟨p, 3, none⟩ (.slice A l.length c)).setCell ⟨p, 4, none⟩ (.map m)).setCell ⟨p, 0, none⟩ (.string ⟨b.toArray⟩)) X5) :
    Chg (fun k => k = p) w (X5.setCell ⟨p, 1, none⟩ (.int .i64 f)) ∧ RdIs (X5.setCell ⟨p, 1, none⟩ (.int .i64 f)) p base b f l [] (.slice none 0 0) [] := by
  have e1 : W4.heap[p]? = _ := blk_grow hc hb
  have e2 := heap_setCell_same _ p 2 _ _ (.string t) e1
  have e3 := heap_setCell_same _ p 3 _ _ (.slice A l.length c) e2
  have e4 := heap_setCell_same _ p 4 _ _ (.map m) e3
  have e5 := heap_setCell_same _ p 0 _ _ (.string ⟨b.toArray⟩) e4
  have e6 : X5.heap[p]? = _ := blk_grow hc5 e5
  have e7 := heap_setCell_same _ p 1 _ _ (.int .i64 f) e6
  have hF : Chg (fun k => k = p) W4 (X5.setCell ⟨p, 1, none⟩ (.int .i64 f)) :=
    Chg.trans (G := fun k => k = p) (Chg.trans (G := fun k => k = p) (Chg.trans (G := fun k => k = p) (Chg.trans (G := fun k => k = p) (chg_set_b (b := p) (Chg.refl _ _)) (chg_set_b (b := p) (Chg.refl _ _)) (fun _ _ h => h)) (chg_set_b (b := p) (Chg.refl _ _)) (fun _ _ h => h)) (chg_set_b (b := p) (Chg.refl _ _)) (fun _ _ h => h)) (chg_set_b (b := p) hc5) (fun _ _ h => h)
  refine ⟨(hc.mono fun _ _ h => h.elim).trans hF (fun _ _ h => h), ⟨t, A, c, m, e7.trans rfl, hRI.far hF fun k hk => ?_⟩, SS.nil _ _, by simp⟩
  subst hk
  exact ⟨_, _, _, e1, by decide⟩
theorem head_good (p base : Nat) (no : Nat) (w0 w1 w2 w3 : Wd) (A : Option Addr) (c : Nat) (x0 x1 x2 x3 x4 : Value) (w : World) (hw : SL w (.slice A 4 c) 4 4 (flT ([w0, w1, w2, w3].map fun y => (no, y)))) (h : headOk w0 w1 w2 w3)
    (hb : w.heap[p]? = some (.cells #[x0, x1, x2, x3, x4, .slice none 0 0] 46)) (hs : ∀ y ∈ [w0, w1, w2, w3], y.text.length ≤ 100000) (hne : ∀ k, (Value.slice A 4 c).ownBlock = some k → k ≠ p) :
    Calls Tryd.prog 19 #[.pointer (some ⟨p, 0, none⟩), .slice A 4 c] w (HeadPost w p base (headS [w0, w1, w2, w3])) := by
  have hR : headS [w0, w1, w2, w3] = match unq ⟨w1.text.toArray⟩ with
      | .error (e, _) => .error e
      | .ok b => if (rosS ⟨b.toArray⟩).2.2 ≠ 0 then .error (rosS ⟨b.toArray⟩).2.2 else if numW w3.text < 0 then .error 21 else .ok (b, (rosS ⟨b.toArray⟩).1, numW w3.text) := by
    unfold headS
    exact if_pos h
  obtain ⟨R, hRR⟩ : ∃ R, headS [w0, w1, w2, w3] = R := ⟨_, rfl⟩
  rw [hRR] at hR ⊢
  clear hRR
  obtain ⟨k0, t0', k2, t2', k1, k3⟩ := h
  obtain ⟨wb, off, rfl, hwb, htk⟩ := tok_at hw rfl (by decide)
  obtain ⟨a0, a1, a2, a3⟩ := htk 0 w0 rfl
  obtain ⟨b0, b1, b2, b3⟩ := htk 1 w1 rfl
  obtain ⟨c0, c1, c2, c3⟩ := htk 2 w2 rfl
  obtain ⟨d0, d1, d2, d3⟩ := htk 3 w3 rfl
  simp only [Nat.zero_mul, Nat.add_zero, Nat.reduceMul, Nat.add_assoc, Nat.reduceAdd] at a0 a1 a2 a3 b0 b1 b2 b3 c0 c1 c2 c3 d0 d1 d2 d3
  have jw : Old wb w := ⟨hwb⟩
  have hin0 := fun W => isName_v no w0 ⟨[110, 111, 100, 101, 115].toArray⟩ W
  have hin2 := fun W => isName_v no w2 ⟨[102, 97, 117, 108, 116, 115].toArray⟩ W
  simp only [isName_b, decide_eq_true k0, decide_eq_true t0', decide_eq_true k2, decide_eq_true t2', Bool.and_self] at hin0 hin2
  have y1 : (w1.kind != 4) = false := by simp [k1]
  have y3 : (w3.kind != 3) = false := by simp [k3]
  have hun := fun W => unquote_any ⟨w1.text.toArray⟩ W
  have huE := @unq_err ⟨w1.text.toArray⟩
  have hnu := fun W => Number_any ⟨w3.text.toArray⟩ W (by have := hs w3 (by simp); show w3.text.toArray.size ≤ _; simp; omega)
  unfold numVal at hnu
  simp only [List.toList_toArray] at hnu
  have jp : Old p w := ⟨(Array.getElem?_eq_some_iff.1 hb).1⟩
  have hpw : ¬ wb = p := hne wb rfl
  have hq : ∀ (i : Nat) v, i < 6 → #[x0, x1, x2, x3, x4, .slice none 0 0][i]? = some v → w.cell? ⟨p, i, none⟩ = some v := fun i v _ h => (cell_of_row w p i _ _ _ hb).trans h
  have p0 := hq 0 x0 (by decide) rfl
  have p1 := hq 1 x1 (by decide) rfl
  have p2 := hq 2 x2 (by decide) rfl
  have p3 := hq 3 x3 (by decide) rfl
  have p4 := hq 4 x4 (by decide) rfl
  have hz : ∀ i, w.frozen? ⟨p, i, none⟩ = false := fun i => frozen_of_row _ _ _ _ _ hb
  have g0 : HasCell w p 0 := ⟨by rw [p0]; rfl⟩
  have g1 : HasCell w p 1 := ⟨by rw [p1]; rfl⟩
  have g2 : HasCell w p 2 := ⟨by rw [p2]; rfl⟩
  have g3 : HasCell w p 3 := ⟨by rw [p3]; rfl⟩
  have g4 : HasCell w p 4 := ⟨by rw [p4]; rfl⟩
  have HB := Lib.hid hb
  clear hb htk hw hs hne k0 t0' k2 t2' k1 k3 hq
  obtain ⟨u1, hu1⟩ : ∃ t, (⟨w1.text.toArray⟩ : ByteArray) = t := ⟨_, rfl⟩
  obtain ⟨u3, hu3⟩ : ∃ t, (⟨w3.text.toArray⟩ : ByteArray) = t := ⟨_, rfl⟩
  obtain ⟨nv, hnv⟩ : ∃ t, numW w3.text = t := ⟨_, rfl⟩
  rw [hu1] at hun huE hR b1
  rw [hu3] at hnu d1
  rw [hnv] at hnu hR
  clear hu1 hu3 hnv
  obtain ⟨U, hU⟩ : ∃ U, unq u1 = U := ⟨_, rfl⟩
  rw [hU] at hun huE hR
  clear hU
  cases U with
  | error x =>
    obtain ⟨er, k⟩ := x
    have h0 := huE.1 er k rfl
    have z1 : (er != 0) = true := by simpa using h0
    simp only at hR
    subst hR
    unfold unqVal at hun
    simp only at hun
    clear hnu huE
    have H0 := Lib.hid h0
    clear h0
    go_enter Tryd.func19, Tryd.ntmps19
    go_wp2_with fail
    go_at_call 31
    with_reducible refine (hin0 _).mono ?_
    rintro e X ⟨rfl, hc1⟩
    obtain ⟨m1, rfl⟩ := muts_ex hc1
    go_wp2_with fail
    go_at_call 31
    with_reducible refine (hin2 _).mono ?_
    rintro e X ⟨rfl, hc2⟩
    obtain ⟨m2, rfl⟩ := muts_ex hc2
    go_wp2_with fail
    go_at_call 33
    with_reducible refine (hun _).mono ?_
    rintro e X ⟨rfl, hc3⟩
    obtain ⟨m3, rfl⟩ := muts_ex hc3
    go_wp2_with fail
    go_ret
    exact ⟨H0.out, rfl, ((hc1.trans hc2 (fun _ _ h => h)).trans hc3 (fun _ _ h => h)).mono (fun _ _ h => h.elim)⟩
  | ok b =>
    simp only at hR
    unfold unqVal at hun
    simp only at hun
    clear huE
    have hro := fun W => ros_any ⟨b.toArray⟩ W
    unfold RosTo at hro
    obtain ⟨ub, hub⟩ : ∃ t, (⟨b.toArray⟩ : ByteArray) = t := ⟨_, rfl⟩
    rw [hub] at hun hro hR
    obtain ⟨rl, ri, re, hr⟩ : ∃ rl ri re, rosS ub = (rl, ri, re) := ⟨_, _, _, rfl⟩
    rw [hr] at hro hR
    simp only at hro hR
    have HU := Lib.hid hub
    clear hub hr
    have way : ∀ (E : Int), ((re ≠ 0 ∧ E = re) ∨ re = 0) → True := fun _ _ => trivial
    by_cases hre : re = 0
    · subst hre
      obtain ⟨n', e', hnu', hne⟩ : ∃ n' e' : Int, (∀ W, Calls Tryd.prog 35 #[.string u3] W (Gc (.tuple #[.int .i64 n', .int .i64 e']) W)) ∧ ((R = .error 21 ∧ e' = 21) ∨ (R = .ok (b, rl, n') ∧ e' = 0)) := by
        by_cases h : nv < 0
        · exact ⟨0, 21, fun W => by have := hnu W; rwa [if_pos h] at this, .inl ⟨by rw [hR, if_neg (by simp), if_pos h], rfl⟩⟩
        · exact ⟨nv, 0, fun W => by have := hnu W; rwa [if_neg h] at this, .inr ⟨by rw [hR, if_neg (by simp), if_neg h], rfl⟩⟩
      have HN := Lib.hid hne
      clear hne hnu hR way
      go_enter Tryd.func19, Tryd.ntmps19
      go_wp2_with fail
      go_at_call 31
      with_reducible refine (hin0 _).mono ?_
      rintro e X ⟨rfl, hc1⟩
      obtain ⟨m1, rfl⟩ := muts_ex hc1
      go_wp2_with fail
      go_at_call 31
      with_reducible refine (hin2 _).mono ?_
      rintro e X ⟨rfl, hc2⟩
      obtain ⟨m2, rfl⟩ := muts_ex hc2
      go_wp2_with fail
      go_at_call 33
      with_reducible refine (hun _).mono ?_
      rintro e X ⟨rfl, hc3⟩
      obtain ⟨m3, rfl⟩ := muts_ex hc3
      go_wp2_with fail
      go_at_call 34
      with_reducible refine (hro _).mono ?_
      rintro e X ⟨rv, rfl, hRI, hc4⟩
      obtain ⟨m4, rfl⟩ := muts_ex hc4
      obtain ⟨rt, rA, rc, rm, rfl⟩ : ∃ rt rA rc rm, rv = .agg #[.string rt, .slice rA rl.length rc, .map rm] := by
        obtain ⟨t, A, c, m, e, _, _, h⟩ := hRI
        rcases h with ⟨_, rfl⟩ | ⟨_, rfl, _⟩
        · exact ⟨t, A, c, _, e⟩
        · exact ⟨t, A, c, _, e⟩
      have hca : Chg Noth w m4.w := ((hc1.trans hc2 (fun _ _ h => h)).trans hc3 (fun _ _ h => h)).trans hc4 (fun _ _ h => h)
      have HRI := Lib.hid (And.intro hRI hca)
      clear hRI hca hc1 hc2 hc3 hc4
      obtain ⟨rn', hrn⟩ : ∃ n, rl.length = n := ⟨_, rfl⟩
      rw [hrn]
      have HLN := Lib.hid hrn
      clear hrn
      go_wp2_with fail
      go_at_call 35
      with_reducible refine (hnu' _).mono ?_
      rintro e X ⟨rfl, hc5⟩
      obtain ⟨m5, rfl⟩ := muts_ex hc5
      have HC5 := Lib.hid hc5
      clear hc5 hnu' hro hun hin0 hin2
      go_wp2_with fail
      go_ret
      have hub := HU.out
      subst hub
      have hln := HLN.out
      subst hln
      have hend := head_end (base := base) (f := n') HRI.out.2 HB.out HRI.out.1 HC5.out
      rcases HN.out with ⟨rfl, rfl⟩ | ⟨rfl, rfl⟩
      · exact ⟨by decide, rfl, hend.1⟩
      · exact ⟨rfl, hend⟩
    · rw [if_pos hre] at hR
      subst hR
      have z1 : (re != 0) = true := by simpa using hre
      have H0 := Lib.hid hre
      clear hre hnu way
      go_enter Tryd.func19, Tryd.ntmps19
      go_wp2_with fail
      go_at_call 31
      with_reducible refine (hin0 _).mono ?_
      rintro e X ⟨rfl, hc1⟩
      obtain ⟨m1, rfl⟩ := muts_ex hc1
      go_wp2_with fail
      go_at_call 31
      with_reducible refine (hin2 _).mono ?_
      rintro e X ⟨rfl, hc2⟩
      obtain ⟨m2, rfl⟩ := muts_ex hc2
      go_wp2_with fail
      go_at_call 33
      with_reducible refine (hun _).mono ?_
      rintro e X ⟨rfl, hc3⟩
      obtain ⟨m3, rfl⟩ := muts_ex hc3
      go_wp2_with fail
      go_at_call 34
      with_reducible refine (hro _).mono ?_
      rintro e X ⟨rv, rfl, hRI, hc4⟩
      obtain ⟨m4, rfl⟩ := muts_ex hc4
      obtain ⟨rt, rA, rn', rc, rm, rfl⟩ : ∃ rt rA rn' rc rm, rv = .agg #[.string rt, .slice rA rn' rc, .map rm] := by
        obtain ⟨t, A, c, m, e, _, _, h⟩ := hRI
        rcases h with ⟨_, rfl⟩ | ⟨_, rfl, _⟩
        · exact ⟨t, A, _, c, _, e⟩
        · exact ⟨t, A, _, c, _, e⟩
      have hca : Chg Noth w m4.w := ((hc1.trans hc2 (fun _ _ h => h)).trans hc3 (fun _ _ h => h)).trans hc4 (fun _ _ h => h)
      have HRI := Lib.hid hca
      clear hRI hca hc1 hc2 hc3 hc4
      go_wp2_with fail
      go_ret
      exact ⟨H0.out, rfl, Chg.trans (G := fun k => k = p) (Chg.trans (G := fun k => k = p) (chg_set_b (b := p) HRI.out) (chg_set_b (b := p) (Chg.refl _ _)) (fun _ _ h => h)) (chg_set_b (b := p) (Chg.refl _ _)) (fun _ _ h => h)⟩
end Go.Proofs.YtkamjhhaghkdmaaDoor
