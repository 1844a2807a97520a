/- script: a step read. -/
import Derived.Test.YtkamjhhaghkdmaaDoorH43
import Derived.Test.YtkamjhhaghkdmaaDoorH27
namespace Go.Proofs.YtkamjhhaghkdmaaDoor
open Go.RowKit Go.Ear Go.Shelf
set_option maxHeartbeats 4000000
set_option maxRecDepth 100000
set_option linter.unusedSimpArgs false
set_option linter.unusedVariables false
theorem fitsP_at : ∀ (ps : List Pl) (ws : List Wd), fitsP ps ws = true → ∀ (j : Nat) (p : Pl) (y : Wd), ps[j]? = some p → ws[j]? = some y → isP p y = true
  | [], ws, _, j, p, y, h, _ => by simp at h
  | p :: ps, [], h, j, q, y, _, h2 => by simp at h2
  | p :: ps, y :: ws, h, j, q, z, h1, h2 => by
    rw [fitsP_cons, Bool.and_eq_true] at h
    cases j with
    | zero =>
      simp only [List.getElem?_cons_zero, Option.some.injEq] at h1 h2
      subst h1
      subst h2
      exact h.1
    | succ j => exact fitsP_at ps ws h.2 j q z (by simpa using h1) (by simpa using h2)
theorem isP_sign {y : Wd} (h : isP .sign y = true) : 0 < y.text.length := by
  rcases Nat.eq_zero_or_pos y.text.length with h0 | h0
  · have : y.text = [] := List.eq_nil_of_length_eq_zero h0
    simp only [isP, this, Bool.and_eq_true] at h
    have h2 := h.2
    have e : cnt ⟨([] : List UInt8).toArray⟩ = 0 := by
      unfold cnt
      rw [runes_end (by decide)]
      rfl
    rw [e] at h2
    cases h2
  · exact h0
theorem step_v (p base : Nat) (b : List UInt8) (f : Int) (l : List Int) (L : List StepS) (gs : Value) (vs : List Value) (no : Nat) (w0 : Wd) (rest : List Wd) (A : Option Addr) (c n : Nat) (w : World) (hn : n = rest.length + 1) (hR : RdIs w p base b f l L gs vs)
    (hw : SL w (.slice A n c) n 4 (flT ((w0 :: rest).map fun y => (no, y)))) (hs : ∀ y ∈ w0 :: rest, y.text.length ≤ 100000) (hlen : n ≤ 100000) (hbase : base ≤ w.heap.size) :
    Calls Tryd.prog 18 #[.pointer (some ⟨p, 0, none⟩), .slice A n c] w (StepPost w p base b f l gs (stepA l (w0 :: rest) L)) := by
  obtain ⟨S, hS⟩ : ∃ S, stepA l (w0 :: rest) L = S := ⟨_, rfl⟩
  rw [hS]
  have hcn : n ≤ c := by obtain ⟨_, A', c', e, _, h, _⟩ := hw; simp only [Value.slice.injEq, true_and] at e; omega
  obtain ⟨wb, off, rfl, hwb, htk⟩ := tok_at hw (by simpa using hn) (by omega)
  obtain ⟨t0, t1, t2, t3⟩ := htk 0 w0 rfl
  simp only [Nat.zero_mul, Nat.add_zero] at t0 t1 t2 t3
  have jw : Old wb w := ⟨hwb⟩
  have hwr : SL w (.slice (if c = 1 then some ⟨wb, off, none⟩ else some ⟨wb, off + 4, none⟩) rest.length (c - 1)) rest.length 4 (flT (rest.map fun y => (no, y))) := by
    obtain ⟨h1, A', c', e, h2, h3, h4⟩ := hw
    simp only [Value.slice.injEq, true_and] at e
    obtain ⟨rfl, rfl⟩ := e
    refine ⟨(by rw [flT_len]; simp), _, _, rfl, fun h => (by split at h <;> cases h), by omega, fun hp => ?_⟩
    obtain ⟨b', off', e, hb', hc'⟩ := h4 (by omega)
    simp only [Option.some.injEq, Addr.mk.injEq, and_true] at e
    obtain ⟨rfl, rfl⟩ := e
    rw [if_neg (by omega)]
    refine ⟨wb, off + 4, rfl, hb', fun i u hu => ?_⟩
    rw [show off + 4 + i = off + (4 + i) by omega]
    refine hc' (4 + i) u ?_
    have e : flT ((w0 :: rest).map fun y => (no, y)) = tv no w0 ++ flT (rest.map fun y => (no, y)) := by simp [flT]
    rw [e, List.getElem?_append_right (by simp [tv])]
    simpa [tv] using hu
  have hal := fun (ps : List Pl) v W (hc : Chg Noth w W) (hv : PlsV W ps v) => alike_v ps rest no v _ (c - 1) W hv (hwr.grow hc) (fun y hy => by have := hs y (by simp [hy]); omega) (by omega)
  have hin := fun s W => isName_v no w0 s W
  have hrw := fun W => rows_v W
  have hH := Lib.hid (And.intro hS (And.intro hR (And.intro hwr (And.intro hs (And.intro hbase htk)))))
  clear hS hR hwr hs hbase htk hw
  go_enter Tryd.func18, Tryd.ntmps18
  go_wp2_with fail
  go_at_call 30
  refine (hrw _).mono ?_
  rintro e W1 ⟨tv', rfl, hc1, htab⟩
  obtain ⟨tg, rfl, htg, hrow⟩ := htab.at
  go_wp2_with fail
  go_loopw [13] (fun i13 wr => ∃ k : Nat, k ≤ 12 ∧ i13 = .int .i64 k ∧ Chg Noth W1 wr ∧ stepRows.find? (isRow (w0 :: rest)) = (stepRows.drop k).find? (isRow (w0 :: rest))) (fun i13 _ => 12 - (intOf i13).toNat)
  case atStart => exact ⟨0, Nat.zero_le _, rfl, Chg.refl _ _, rfl⟩
  case round =>
    obtain ⟨wa, hwa⟩ : ∃ wa, wa = wr := ⟨_, rfl⟩
    subst hwa
    obtain ⟨k, hk, rfl, hc, hfind⟩ := hrel
    by_cases hlt : k < 12
    · obtain ⟨r, hr⟩ : ∃ r, stepRows[k]? = some r := ⟨_, List.getElem?_eq_getElem hlt⟩
      obtain ⟨x, hx, s0, s1, s2⟩ := hrow k r hr
      obtain ⟨pg, pvs, pz, rfl, _⟩ := id hx
      rw [drop_cons hr, List.find?_cons] at hfind
      have hq0 : isRow (w0 :: rest) r = ((w0.kind == 2 && ((⟨w0.text.toArray⟩ : ByteArray).toList == (⟨r.1.toArray⟩ : ByteArray).toList)) && fitsP r.2.2 rest) := by
        simp only [isRow, Lib.toList_data, List.toList_toArray]
        congr 2
        by_cases h : w0.text = r.1
        · rw [decide_eq_true h, h]; simp
        · rw [decide_eq_false h]; exact (beq_eq_false_iff_ne.2 h).symm
      have hin := hin ⟨r.1.toArray⟩
      obtain ⟨q1, hq1⟩ : ∃ q1, (w0.kind == 2 && ((⟨w0.text.toArray⟩ : ByteArray).toList == (⟨r.1.toArray⟩ : ByteArray).toList)) = q1 := ⟨_, rfl⟩
      obtain ⟨q2, hq2⟩ : ∃ q2, fitsP r.2.2 rest = q2 := ⟨_, rfl⟩
      rw [hq1, hq2] at hq0
      rw [hq1] at hin
      have hc1w : Chg Noth w wa := hc1.trans hc (fun _ _ h => h)
      have hal := fun W (hW : Chg Noth wa W) => gc_gr (hal r.2.2 _ W (hc1w.trans hW (fun _ _ h => h)) (PlsV.grow (hc.trans hW (fun _ _ h => h)) hx))
      rw [hq2] at hal
      have hin := fun W => gc_gr (hin W)
      obtain ⟨nm, hnm⟩ : ∃ t, (⟨r.1.toArray⟩ : ByteArray) = t := ⟨_, rfl⟩
      obtain ⟨pn, hpn⟩ : ∃ n, r.2.2.length = n := ⟨_, rfl⟩
      obtain ⟨kd, hkd⟩ : ∃ n, r.2.1 = n := ⟨_, rfl⟩
      rw [hnm] at hin s0
      rw [hpn] at hal s2
      rw [hkd] at s1
      have s0 := (hc.cell (p := ⟨tg, k * 3, none⟩) htg (fun e => e)).trans s0
      have s1 := (hc.cell (p := ⟨tg, k * 3 + 1, none⟩) htg (fun e => e)).trans s1
      have s2 := (hc.cell (p := ⟨tg, k * 3 + 2, none⟩) htg (fun e => e)).trans s2
      have t0 := (hc1w.cell (p := ⟨wb, off, none⟩) hwb (fun e => e)).trans t0
      have t1 := (hc1w.cell (p := ⟨wb, off + 1, none⟩) hwb (fun e => e)).trans t1
      have t2 := (hc1w.cell (p := ⟨wb, off + 2, none⟩) hwb (fun e => e)).trans t2
      have t3 := (hc1w.cell (p := ⟨wb, off + 3, none⟩) hwb (fun e => e)).trans t3
      have jg : Old tg wa := ⟨Nat.lt_of_lt_of_le htg hc.size⟩
      have jw : Old wb wa := ⟨Nat.lt_of_lt_of_le hwb hc1w.size⟩
      have HC := Lib.hid (And.intro hc1w (And.intro hc (And.intro hq0 (And.intro hfind (And.intro hx (And.intro hpn (And.intro hkd hr)))))))
      clear hc1w hc hq0 hfind hx hpn hkd hq1 hq2 hnm hr
      cases q1
      · go_wp2_with fail
        refine wp_region_grows (by kernel_rfl) (by kernel_rfl) ?_
        repeat (go_big_quiet_step (first | (go_at_call 31; exact grows_of (hin _)) | (go_at_call 32; with_reducible refine grows_of (hal _ ?_); exact ((chg_alloc (Chg.refl _ _) _).trans (Muts.h _) (fun _ _ h => h)))))
        refine wpQuiet_nil ?_
        rintro _ ⟨g2, rfl⟩
        clear hin hal
        go_wp2_with fail
        go_roundw
        case rel =>
          refine ⟨k + 1, by omega, by go_num, HC.out.2.1.trans ((chg_alloc (Chg.refl _ _) _).trans g2.h (fun _ _ h => h)) (fun _ _ h => h), ?_⟩
          have h := HC.out.2.2.2.1
          rw [HC.out.2.2.1] at h
          exact h
        case measure => simp [intOf]; omega
      cases q2
      · go_wp2_with fail
        refine wp_region_grows (by kernel_rfl) (by kernel_rfl) ?_
        repeat (go_big_quiet_step (first | (go_at_call 31; exact grows_of (hin _)) | (go_at_call 32; with_reducible refine grows_of (hal _ ?_); exact ((chg_alloc (Chg.refl _ _) _).trans (Muts.h _) (fun _ _ h => h)))))
        refine wpQuiet_nil ?_
        rintro _ ⟨g2, rfl⟩
        clear hin hal
        go_wp2_with fail
        go_roundw
        case rel =>
          refine ⟨k + 1, by omega, by go_num, HC.out.2.1.trans ((chg_alloc (Chg.refl _ _) _).trans g2.h (fun _ _ h => h)) (fun _ _ h => h), ?_⟩
          have h := HC.out.2.2.2.1
          rw [HC.out.2.2.1] at h
          exact h
        case measure => simp [intOf]; omega
      · go_wp2_with fail
        refine wp_region_grows (by kernel_rfl) (by kernel_rfl) ?_
        repeat (go_big_quiet_step (first | (go_at_call 31; exact grows_of (hin _)) | (go_at_call 32; with_reducible refine grows_of (hal _ ?_); exact ((chg_alloc (Chg.refl _ _) _).trans (Muts.h _) (fun _ _ h => h)))))
        refine wpQuiet_nil ?_
        rintro _ ⟨g2, rfl⟩
        clear hin hal
        have hfr : stepRows.find? (isRow (w0 :: rest)) = some r := by
          have h := HC.out.2.2.2.1
          rw [HC.out.2.2.1] at h
          exact h
        have HF := Lib.hid hfr
        clear hfr
        generalize (if c = 1 then some (⟨wb, off, none⟩ : Addr) else some (⟨wb, off + 4, none⟩ : Addr)) = AA
        go_wp2_with fail
        have hS0 : StepAt (g2.w.alloc (.cells #[.int .i64 kd, .int .i64 0, .int .i64 0, .int .i64 0, .slice none 0 0] 50)) w.heap.size g2.w.heap.size ⟨kd, 0, 0, 0, []⟩ (.slice none 0 0) := ⟨heap_alloc_new _ _, .inl ⟨rfl, rfl⟩⟩
        have hcW2 : Chg Noth wa (g2.w.alloc (.cells #[.int .i64 kd, .int .i64 0, .int .i64 0, .int .i64 0, .slice none 0 0] 50)) := chg_alloc ((chg_alloc (Chg.refl _ _) _).trans g2.h (fun _ _ h => h)) _
        have hsb : wa.heap.size ≤ g2.w.heap.size := (Chg.trans (G := Noth) (chg_alloc (Chg.refl Noth wa) _) g2.h (fun _ _ h => h)).size
        generalize g2.w.alloc (.cells #[.int .i64 kd, .int .i64 0, .int .i64 0, .int .i64 0, .slice none 0 0] 50) = W2 at *
        generalize g2.w.heap.size = sb at *
        have HS0 := Lib.hid (And.intro hS0 (And.intro hcW2 hsb))
        clear hS0 hcW2 hsb g2
        have hk12 : decide ((k : Int) < 12) = true := decide_eq_true (by omega)
        rw [hk12]
        clear hk12
        go_loopw [38] (fun i38 wq => ∃ (j : Nat) (s' : StepS) (v' : Value), j ≤ pn ∧ i38 = .int .i64 j ∧ Chg Noth wa wq ∧ StepAt wq w.heap.size sb s' v' ∧ readP l r.2.2 rest ⟨kd, 0, 0, 0, []⟩ = readP l (r.2.2.drop j) (rest.drop j) s') (fun i38 _ => pn - (intOf i38).toNat)
        case atStart => exact ⟨0, _, _, Nat.zero_le _, rfl, HS0.out.2.1, HS0.out.1, rfl⟩
        case round =>
          obtain ⟨j, s', v', hj, rfl, hcq, hSq, hrd⟩ := hrel
          by_cases hjl : j < pn
          · obtain ⟨pl, hpl⟩ : ∃ q, r.2.2[j]? = some q := ⟨_, List.getElem?_eq_getElem (by have := HC.out.2.2.2.2.2.1; omega)⟩
            have hft : fitsP r.2.2 rest = true := by
              have h := List.find?_some HF.out
              simp only [isRow, Bool.and_eq_true] at h
              exact h.2
            have hrl := fitsP_len _ _ hft
            obtain ⟨y, hy⟩ : ∃ q, rest[j]? = some q := ⟨_, List.getElem?_eq_getElem (by have := HC.out.2.2.2.2.2.1; omega)⟩
            have hisp := fitsP_at _ _ hft j pl y hpl hy
            rw [drop_cons hpl, drop_cons hy, readP_cons] at hrd
            obtain ⟨f0, f1, f2, hq, q0, q1, q2⟩ := (PlsV.at HC.out.2.2.2.2.1).2.2.2 j pl hpl
            have hpgb := (PlsV.at HC.out.2.2.2.2.1).2.2.1
            have hcc : Chg Noth W1 wr := HC.out.2.1.trans hcq (fun _ _ h => h)
            have q0 := (hcc.cell (p := ⟨pg, j * 3, none⟩) hpgb (fun e => e)).trans q0
            have q1 := (hcc.cell (p := ⟨pg, j * 3 + 1, none⟩) hpgb (fun e => e)).trans q1
            have q2 := (hcc.cell (p := ⟨pg, j * 3 + 2, none⟩) hpgb (fun e => e)).trans q2
            replace hq := hq.grow hcc
            have hyt := (hH.out.2.2.2.2.2 (j + 1) y (by simpa using hy)).2.1
            have hcw : Chg Noth w wr := HC.out.1.trans hcq (fun _ _ h => h)
            have hyt := (hcw.cell (p := ⟨wb, off + (j + 1) * 4 + 1, none⟩) hwb (fun e => e)).trans hyt
            have jp : Old pg wr := ⟨Nat.lt_of_lt_of_le hpgb hcc.size⟩
            have jw2 : Old wb wr := ⟨Nat.lt_of_lt_of_le hwb hcw.size⟩
            have hRo : RosAt wr p l := hH.out.2.1.ros.grow hcw
            have hys : y.text.length ≤ 100000000000 := by have := hH.out.2.2.2.1 y (List.mem_cons_of_mem _ (List.mem_of_getElem? hy)); omega
            have hj63 : wrap64 ((j : Int) + 1) = ((j + 1 : Nat) : Int) := by have := HC.out.2.2.2.2.2.1; rw [wid] <;> omega
            obtain ⟨j1, hj1⟩ : ∃ j1, j + 1 = j1 := ⟨_, rfl⟩
            rw [hj1] at hj63 hyt
            have hjn : j1 < rest.length + 1 := by have := HC.out.2.2.2.2.2.1; omega
            have hjp : j1 ≤ pn := by omega
            have HJ := Lib.hid (And.intro hj1 hjp)
            clear hjp
            clear hj1
            have hwc := hcw.size
            have HR := Lib.hid (And.intro hcq (And.intro hcw hrd))
            clear hrd hcq hcw hcc hft hrl hpl hy hpgb
            have hSay : ∀ F args, (∀ W, Chg Noth wr W → Calls Tryd.prog F args W (SayPost W w.heap.size sb (sayS l pl y s'))) → ∃ R, R = sayS l pl y s' ∧ (∀ W, Chg Noth wr W → Calls Tryd.prog F args W (SayPost W w.heap.size sb R)) := fun F args h => ⟨_, rfl, h⟩
            rcases pl with _ | i | _
            · obtain ⟨rfl, rfl, rfl⟩ : f0 = _ ∧ f1 = _ ∧ f2 = _ := by simpa [PlV] using hq
              have hsay := fun W (hW : Chg Noth wr W) => sign2_v l p sb w.heap.size y s' v' W (hRo.grow hW) (hSq.keep hW) (isP_sign hisp)
              obtain ⟨R, hRe, hsay⟩ := hSay _ _ hsay
              have HRE := Lib.hid hRe
              clear hRe hSay hRo hSq hq
              go_wp2_with fail
              refine wp_region_head_call 9 (by kernel_rfl) (by kernel_rfl) ?_
              simp only [List.take_succ_cons, List.take_zero]
              repeat (go_big_quiet_step (fail))
              refine wpQuiet_nil ?_
              intro g2 o ho
              simp only [List.getElem?_cons_succ, List.getElem?_cons_zero, Option.some.injEq] at ho
              subst ho
              simp only [List.drop_succ_cons, List.drop_zero]
              go_simp
              go_at_call 64
              have hcg : Chg Noth wr g2.w := (chg_alloc (Chg.refl _ _) _).trans g2.h (fun _ _ h => h)
              with_reducible refine (hsay _ hcg).mono ?_
              intro e X hpost
              have hge := hcg.size
              cases R with
              | error er =>
                obtain ⟨h0, rfl, hcx⟩ := hpost
                have x1 : (er != 0) = true := by simpa using h0
                have hcX : Chg Noth w X := (HR.out.2.1.trans hcg (fun _ _ h => h)).trans hcx (fun i hi e => by have := HS0.out.2.2; have := HC.out.1.size; omega)
                have hSE : S = .error er := by
                  have h1 := hH.out.1
                  rw [← h1]
                  unfold stepA
                  rw [stepS_find, HF.out]
                  have h2 := HR.out.2.2
                  rw [← HRE.out] at h2
                  have h3 : readP l r.2.2 rest ⟨r.2.1, 0, 0, 0, []⟩ = .error er := by rw [HC.out.2.2.2.2.2.2.1]; exact h2
                  simp only [h3]
                subst hSE
                have HX := Lib.hid (And.intro h0 hcX)
                clear hcx hcX h0 hsay hcg hge
                dsimp only
                unfold RestQ
                repeat (go_big_quiet_step (fail))
                refine wpQuiet_nil ?_
                intro g3
                go_wp2_with fail
                go_ret
                exact ⟨HX.out.1, rfl, HX.out.2.trans g3.h (fun _ _ h => h)⟩
              | ok s2 =>
                obtain ⟨rfl, hcx, v2, hS2⟩ := hpost
                have hcX : Chg Noth wa X := (HR.out.1.trans hcg (fun _ _ h => h)).trans hcx (fun i hi e => by have := HS0.out.2.2; omega)
                have HX := Lib.hid (And.intro hcX hS2)
                clear hcx hcX hsay hcg hge hS2
                dsimp only
                unfold RestQ
                repeat (go_big_quiet_step (fail))
                refine wpQuiet_nil ?_
                intro g3
                go_wp2_with fail
                go_roundw
                case rel =>
                  refine ⟨j + 1, s2, v2, by have := HJ.out; omega, by rw [HJ.out.1, hj63], HX.out.1.trans g3.h (fun _ _ h => h), HX.out.2.keep g3.h, ?_⟩
                  have h2 := HR.out.2.2
                  rw [← HRE.out] at h2
                  exact h2
                case measure =>
                  have := HJ.out
                  rw [hj63]
                  simp [intOf]
                  omega
            · obtain ⟨b1, b2, z1, z2, e, hb1, hb2⟩ := id hq
              simp only [Value.agg.injEq, Array.mk.injEq, List.cons.injEq, and_true] at e
              obtain ⟨rfl, rfl, rfl⟩ := e
              have hsay := fun W (hW : Chg Noth wr W) => number1_v i l (.pointer (some ⟨p, 0, none⟩)) sb b2 w.heap.size z2 y s' v' W (hSq.keep hW) (blk_grow hW hb2) hys
              clear hb1 hb2
              obtain ⟨R, hRe, hsay⟩ := hSay _ _ hsay
              have HRE := Lib.hid hRe
              clear hRe hSay hRo hSq hq
              go_wp2_with fail
              refine wp_region_head_call 9 (by kernel_rfl) (by kernel_rfl) ?_
              simp only [List.take_succ_cons, List.take_zero]
              repeat (go_big_quiet_step (fail))
              refine wpQuiet_nil ?_
              intro g2 o ho
              simp only [List.getElem?_cons_succ, List.getElem?_cons_zero, Option.some.injEq] at ho
              subst ho
              simp only [List.drop_succ_cons, List.drop_zero]
              go_simp
              go_at_call 59
              have hcg : Chg Noth wr g2.w := (chg_alloc (Chg.refl _ _) _).trans g2.h (fun _ _ h => h)
              with_reducible refine (hsay _ hcg).mono ?_
              intro e X hpost
              have hge := hcg.size
              cases R with
              | error er =>
                obtain ⟨h0, rfl, hcx⟩ := hpost
                have x1 : (er != 0) = true := by simpa using h0
                have hcX : Chg Noth w X := (HR.out.2.1.trans hcg (fun _ _ h => h)).trans hcx (fun i hi e => by have := HS0.out.2.2; have := HC.out.1.size; omega)
                have hSE : S = .error er := by
                  have h1 := hH.out.1
                  rw [← h1]
                  unfold stepA
                  rw [stepS_find, HF.out]
                  have h2 := HR.out.2.2
                  rw [← HRE.out] at h2
                  have h3 : readP l r.2.2 rest ⟨r.2.1, 0, 0, 0, []⟩ = .error er := by rw [HC.out.2.2.2.2.2.2.1]; exact h2
                  simp only [h3]
                subst hSE
                have HX := Lib.hid (And.intro h0 hcX)
                clear hcx hcX h0 hsay hcg hge
                dsimp only
                unfold RestQ
                repeat (go_big_quiet_step (fail))
                refine wpQuiet_nil ?_
                intro g3
                go_wp2_with fail
                go_ret
                exact ⟨HX.out.1, rfl, HX.out.2.trans g3.h (fun _ _ h => h)⟩
              | ok s2 =>
                obtain ⟨rfl, hcx, v2, hS2⟩ := hpost
                have hcX : Chg Noth wa X := (HR.out.1.trans hcg (fun _ _ h => h)).trans hcx (fun i hi e => by have := HS0.out.2.2; omega)
                have HX := Lib.hid (And.intro hcX hS2)
                clear hcx hcX hsay hcg hge hS2
                dsimp only
                unfold RestQ
                repeat (go_big_quiet_step (fail))
                refine wpQuiet_nil ?_
                intro g3
                go_wp2_with fail
                go_roundw
                case rel =>
                  refine ⟨j + 1, s2, v2, by have := HJ.out; omega, by rw [HJ.out.1, hj63], HX.out.1.trans g3.h (fun _ _ h => h), HX.out.2.keep g3.h, ?_⟩
                  have h2 := HR.out.2.2
                  rw [← HRE.out] at h2
                  exact h2
                case measure =>
                  have := HJ.out
                  rw [hj63]
                  simp [intOf]
                  omega
            · obtain ⟨b1, z1, e, hb1⟩ := id hq
              simp only [Value.agg.injEq, Array.mk.injEq, List.cons.injEq, and_true] at e
              obtain ⟨rfl, rfl, rfl⟩ := e
              have hsay := fun W (hW : Chg Noth wr W) => text1_v l (.pointer (some ⟨p, 0, none⟩)) sb w.heap.size y s' v' W (hSq.keep hW) (Nat.le_trans hwc hW.size)
              clear hb1
              obtain ⟨R, hRe, hsay⟩ := hSay _ _ hsay
              have HRE := Lib.hid hRe
              clear hRe hSay hRo hSq hq
              go_wp2_with fail
              refine wp_region_head_call 9 (by kernel_rfl) (by kernel_rfl) ?_
              simp only [List.take_succ_cons, List.take_zero]
              repeat (go_big_quiet_step (fail))
              refine wpQuiet_nil ?_
              intro g2 o ho
              simp only [List.getElem?_cons_succ, List.getElem?_cons_zero, Option.some.injEq] at ho
              subst ho
              simp only [List.drop_succ_cons, List.drop_zero]
              go_simp
              go_at_call 68
              have hcg : Chg Noth wr g2.w := (chg_alloc (Chg.refl _ _) _).trans g2.h (fun _ _ h => h)
              with_reducible refine (hsay _ hcg).mono ?_
              intro e X hpost
              have hge := hcg.size
              cases R with
              | error er =>
                obtain ⟨h0, rfl, hcx⟩ := hpost
                have x1 : (er != 0) = true := by simpa using h0
                have hcX : Chg Noth w X := (HR.out.2.1.trans hcg (fun _ _ h => h)).trans hcx (fun i hi e => by have := HS0.out.2.2; have := HC.out.1.size; omega)
                have hSE : S = .error er := by
                  have h1 := hH.out.1
                  rw [← h1]
                  unfold stepA
                  rw [stepS_find, HF.out]
                  have h2 := HR.out.2.2
                  rw [← HRE.out] at h2
                  have h3 : readP l r.2.2 rest ⟨r.2.1, 0, 0, 0, []⟩ = .error er := by rw [HC.out.2.2.2.2.2.2.1]; exact h2
                  simp only [h3]
                subst hSE
                have HX := Lib.hid (And.intro h0 hcX)
                clear hcx hcX h0 hsay hcg hge
                dsimp only
                unfold RestQ
                repeat (go_big_quiet_step (fail))
                refine wpQuiet_nil ?_
                intro g3
                go_wp2_with fail
                go_ret
                exact ⟨HX.out.1, rfl, HX.out.2.trans g3.h (fun _ _ h => h)⟩
              | ok s2 =>
                obtain ⟨rfl, hcx, v2, hS2⟩ := hpost
                have hcX : Chg Noth wa X := (HR.out.1.trans hcg (fun _ _ h => h)).trans hcx (fun i hi e => by have := HS0.out.2.2; omega)
                have HX := Lib.hid (And.intro hcX hS2)
                clear hcx hcX hsay hcg hge hS2
                dsimp only
                unfold RestQ
                repeat (go_big_quiet_step (fail))
                refine wpQuiet_nil ?_
                intro g3
                go_wp2_with fail
                go_roundw
                case rel =>
                  refine ⟨j + 1, s2, v2, by have := HJ.out; omega, by rw [HJ.out.1, hj63], HX.out.1.trans g3.h (fun _ _ h => h), HX.out.2.keep g3.h, ?_⟩
                  have h2 := HR.out.2.2
                  rw [← HRE.out] at h2
                  exact h2
                case measure =>
                  have := HJ.out
                  rw [hj63]
                  simp [intOf]
                  omega
          · obtain rfl : j = pn := by omega
            have x1 : decide (j < j) = false := decide_eq_false (by omega)
            have hSt : stepS l (w0 :: rest) = .ok s' := by
              rw [stepS_find, HF.out]
              have h1 := HC.out.2.2.2.2.2.1
              have h2 := HC.out.2.2.2.2.2.2.1
              have hft : fitsP r.2.2 rest = true := by
                have h := List.find?_some HF.out
                simp only [isRow, Bool.and_eq_true] at h
                exact h.2
              have hrl := fitsP_len _ _ hft
              rw [List.drop_of_length_le (by omega), List.drop_of_length_le (by omega)] at hrd
              simp only [h2]
              exact hrd
            have hcw : Chg Noth w wr := HC.out.1.trans hcq (fun _ _ h => h)
            have hRd := hH.out.2.1.grow hcw
            have hSA : S = if 4096 ≤ L.length then .error 2 else .ok (L ++ [s']) := by
              rw [← hH.out.1]
              unfold stepA
              rw [hSt]
            have hLf := hRd.few
            have hss := hRd.ss
            obtain ⟨rt, rA, rc, rm, hblk, hros⟩ := hRd.blk
            obtain ⟨A5, c5, rfl⟩ := own_shape hss.own
            have jp : Old p wr := ⟨(Array.getElem?_eq_some_iff.1 hblk).1⟩
            have p5 : wr.cell? ⟨p, 5, none⟩ = some (.slice A5 L.length c5) := (cell_of_row wr p 5 _ _ _ hblk).trans rfl
            have z5 : wr.frozen? ⟨p, 5, none⟩ = false := frozen_of_row _ _ _ _ _ hblk
            have jsb : Old sb wr := ⟨(Array.getElem?_eq_some_iff.1 hSq.1).1⟩
            have y0 : wr.cell? ⟨sb, 0, none⟩ = some (.int .i64 s'.kind) := (cell_of_row wr sb 0 _ _ _ hSq.1).trans rfl
            have y1 : wr.cell? ⟨sb, 1, none⟩ = some (.int .i64 s'.a) := (cell_of_row wr sb 1 _ _ _ hSq.1).trans rfl
            have y2 : wr.cell? ⟨sb, 2, none⟩ = some (.int .i64 s'.b) := (cell_of_row wr sb 2 _ _ _ hSq.1).trans rfl
            have y3 : wr.cell? ⟨sb, 3, none⟩ = some (.int .i64 s'.c) := (cell_of_row wr sb 3 _ _ _ hSq.1).trans rfl
            have y4 : wr.cell? ⟨sb, 4, none⟩ = some v' := (cell_of_row wr sb 4 _ _ _ hSq.1).trans rfl
            by_cases h4 : 4096 ≤ L.length
            · have hL : L.length = 4096 := by omega
              rw [if_pos h4] at hSA
              subst hSA
              rw [hL] at p5
              have HE := Lib.hid hcw
              clear hcw hRd hss hros hblk hSq hrd hcq hSt hL h4 hLf
              go_wp2_with fail
              go_ret
              exact ⟨by decide, rfl, HE.out⟩
            · rw [if_neg h4] at hSA
              subst hSA
              have xL : ((L.length : Int) == 4096) = false := beq_eq_false_iff_ne.2 (by omega)
              obtain ⟨vA, vn, vc, rfl⟩ : ∃ vA vn vc, v' = .slice vA vn vc := by
                rcases hSq.2 with ⟨h, _⟩ | ⟨g, cap, cur, h, _⟩
                · exact ⟨_, _, _, h⟩
                · exact ⟨_, _, _, h⟩
              have hown := hss.own
              have hbw : base ≤ wr.heap.size := Nat.le_trans hH.out.2.2.2.2.1 hcw.size
              have hnp := own_ne hown hblk (by decide)
              obtain ⟨i0, hi0, hz0, hz1, hz2⟩ := info_parts infoStep
              have HE := Lib.hid (And.intro hcw (And.intro hss (And.intro hblk (And.intro hros hSq))))
              have HP5 := Lib.hid p5
              have HZ5 := Lib.hid z5
              clear hcw hRd hss hros hblk hSq hrd hcq hSt
              go_wp2_with fail
              go_region_law (refine step_append_lies _ rfl (.tmp 67) (.tmp 69) 24 rfl base 50 i0 _ 5 56 Tryd.underlying24 hi0 hz0 hz1 hz2 rfl (by decide) (.slice A5 L.length c5) L.length (flatS L vs) rfl (World.ownsRow.alloc (World.ownsRow.drew hown) _) ⟨_, 0, none⟩ 1 1 [.int .i64 s'.kind, .int .i64 s'.a, .int .i64 s'.b, .int .i64 s'.c, .slice vA vn vc] rfl rfl (World.news_of_block (cs := #[.int .i64 s'.kind, .int .i64 s'.a, .int .i64 s'.b, .int .i64 s'.c, .slice vA vn vc]) (heap_alloc_new _ _)) (by intro u hu; simp at hu; rcases hu with rfl | rfl | rfl | rfl | rfl <;> rfl) (by omega) (by simp only [maxLen]; omega) (by omega) (by simp; omega) _ rfl ?_; intro ge cap w1 hown1 hgrow hat hlt1; have x1 : w1.cell? ⟨p, 5, none⟩ = some (.slice A5 L.length c5) := (hgrow.cell_far ⟨p, 5, none⟩ (Old.lt (b := p)) (fun e => hnp p e.symm rfl)).trans (by simp [go_sem, p5]); have x2 : w1.frozen? ⟨p, 5, none⟩ = false := (hgrow.frozen_far ⟨p, 5, none⟩ (Old.lt (b := p)) (fun e => hnp p e.symm rfl)).trans (by simp [go_sem, z5]))
              all_goals
                have HF2 := Lib.hid (rd_snoc (x := s') hH.out.2.1 hH.out.2.2.2.2.1 HE.out.1 (chg_alloc (chg_drew (Chg.refl Noth wr)) _) hgrow hown1 (HE.out.2.2.2.2.2.keep fun k hk => (Chg.block (F := Noth) (chg_alloc (chg_drew (Chg.refl Noth wr)) _) k (HE.out.2.2.2.2.2.lt k hk).2.1 (fun e => e))) h4)
                clear hgrow hown1 hat hlt1
                go_wp2_with fail
                go_ret
                exact ⟨rfl, HF2.out.1, _, _, HF2.out.2⟩
    · obtain rfl : k = 12 := by omega
      have x1 : decide (12 < 12) = false := rfl
      have HC := Lib.hid (And.intro hc (hc1.trans hc (fun _ _ h => h)))
      have hsE : S = .error 200 := by
        have h := hH.out.1
        rw [← h]
        unfold stepA
        rw [stepS_find, hfind]
        rfl
      subst hsE
      clear hc hfind
      go_wp2_with fail
      go_ret
      exact ⟨by decide, rfl, HC.out.2⟩
end Go.Proofs.YtkamjhhaghkdmaaDoor
