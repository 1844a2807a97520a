/- A quoted text, taken off a line. The words of a line, plain. -/
import Derived.Test.YtkamjhhaghkdmaaDoorH27
import Derived.Deep.DeepCutAuto
namespace Go.Proofs.YtkamjhhaghkdmaaDoor
open Go.RowKit Go.Ear Go.Proofs.YtkamjhhaghkdmaaDoorW.PrintWords Go.Proofs.YtkamjhhaghkdmaaDoor.PScriptLines
set_option maxHeartbeats 4000000
set_option maxRecDepth 100000
set_option linter.unusedSimpArgs false
set_option linter.unusedVariables false
theorem stands_eq (s : ByteArray) (p : Nat) : glyph_Stands.f (rn s p) 0 (wd s p) (lo s p) = some (stands s p) := by
  unfold glyph_Stands.f stands
  cases lo s p
  · by_cases h : rn s p ≥ 32
    · have h' : 32 ≤ rn s p := h
      rw [if_neg (by simp), if_pos h]
      simp only [h', decide_true, Bool.not_false, Bool.true_and, bne]
      by_cases e : rn s p = 127 <;> simp [e]
    · have h' : ¬ 32 ≤ rn s p := h
      rw [if_neg (by simp), if_neg h]
      simp [h']
  · rfl
theorem stands_any (s : ByteArray) (p : Nat) (w : World) : Calls Tryd.prog 42 #[.agg #[.int .i32 (rn s p), .int .i64 0, .int .i64 (wd s p), .bool (lo s p)]] w (Gc (.bool (stands s p)) w) := by
  refine (glyph_Stands.calls _ _ _ _ _ w (stands_eq s p)).mono ?_
  rintro e w' ⟨rfl, hb⟩
  exact ⟨rfl, Chg.of_below (by first | exact hb | exact hb.below)⟩
/-- What is known behind a quoted text. -/
def QuoPost (s : ByteArray) (b from' : Nat) (v : Value) (w : World) (R : Except (Int × Nat) (Nat × Nat)) : Ending → World → Prop := fun e w' => match R with
  | .error (er, c) => e = .returned (.tuple #[.string ⟨#[]⟩, .int .i64 er]) ∧ Chg (fun j => j = b) w w' ∧ ∃ p, LineAt w' b s p c v
  | .ok (q, c) => e = .returned (.tuple #[.string (s.extract from' q), .int .i64 0]) ∧ Chg (fun j => j = b) w w' ∧ LineAt w' b s q c v
theorem LineAt.cells {w : World} {b : Nat} {s : ByteArray} {p c : Nat} {v : Value} (h : LineAt w b s p c v) : Old b w ∧ w.cell? ⟨b, 0, none⟩ = some (.string s) ∧ w.cell? ⟨b, 1, none⟩ = some (.int .i64 p) ∧ w.cell? ⟨b, 2, none⟩ = some (.int .i64 c) ∧ w.cell? ⟨b, 3, none⟩ = some v :=
  ⟨⟨(Array.getElem?_eq_some_iff.1 h).1⟩, by rw [cell_of_row _ _ _ _ _ _ h]; rfl, by rw [cell_of_row _ _ _ _ _ _ h]; rfl, by rw [cell_of_row _ _ _ _ _ _ h]; rfl, by rw [cell_of_row _ _ _ _ _ _ h]; rfl⟩
theorem LineAt.grow {w w' : World} {b : Nat} {s : ByteArray} {p c : Nat} {v : Value} (h : LineAt w b s p c v) (hc : Chg Noth w w') : LineAt w' b s p c v := (hc.block b (Array.getElem?_eq_some_iff.1 h).1 (fun e => e)).trans h
theorem Chg.undrew {F : Nat → Prop} {a b : World} (h : Chg F a.drew b) : Chg F a b := ⟨h.os, h.tape, h.output, h.size, h.block⟩
/-- A new block of four cells that was made, then left alone, then written. -/
theorem box4 {W0 Y : World} {T : TypeId} {z0 z1 z2 z3 : Value} (h : Chg Noth (W0.alloc (.cells #[z0, z1, z2, z3] T)) Y) (v0 v1 v2 v3 : Value) :
    Chg Noth W0 ((((Y.setCell ⟨W0.heap.size, 0, none⟩ v0).setCell ⟨W0.heap.size, 1, none⟩ v1).setCell ⟨W0.heap.size, 2, none⟩ v2).setCell ⟨W0.heap.size, 3, none⟩ v3) ∧
      ((((Y.setCell ⟨W0.heap.size, 0, none⟩ v0).setCell ⟨W0.heap.size, 1, none⟩ v1).setCell ⟨W0.heap.size, 2, none⟩ v2).setCell ⟨W0.heap.size, 3, none⟩ v3).heap[W0.heap.size]? = some (.cells #[v0, v1, v2, v3] T (0, 0)) := by
  have h0 : Y.heap[W0.heap.size]? = some (.cells #[z0, z1, z2, z3] T (0, 0)) := (h.block _ (by simp) (fun e => e)).trans (heap_alloc_new _ _)
  have h1 := heap_setCell_same _ _ 0 _ _ v0 h0
  have h2 := heap_setCell_same _ _ 1 _ _ v1 h1
  have h3 := heap_setCell_same _ _ 2 _ _ v2 h2
  have h4 := heap_setCell_same _ _ 3 _ _ v3 h3
  refine ⟨?_, h4⟩
  have hc : Chg Noth W0 Y := (chg_alloc (Chg.refl Noth W0) _).trans h (fun _ _ e => e)
  have i : May W0.heap.size Noth W0 := ⟨.inr (Nat.le_refl _)⟩
  exact chg_set (chg_set (chg_set (chg_set hc _ _ _) _ _ _) _ _ _) _ _ _
theorem boxA {W0 Y : World} {T : TypeId} {c : Array Value} (h : Chg Noth W0 Y) : Chg Noth W0 (Y.alloc (.cells c T)) ∧ W0.heap.size ≤ Y.heap.size ∧ (Y.alloc (.cells c T)).heap[Y.heap.size]? = some (.cells c T (0, 0)) :=
  ⟨chg_alloc h _, h.size, heap_alloc_new _ _⟩
theorem boxB {V W0 Y : World} {T : TypeId} {z0 z1 z2 z3 v0 v1 v2 v3 : Value} (h' : Chg Noth V W0) (h : Chg Noth (W0.alloc (.cells #[z0, z1, z2, z3] T)) Y) :
    Chg Noth V ((((Y.setCell ⟨W0.heap.size, 0, none⟩ v0).setCell ⟨W0.heap.size, 1, none⟩ v1).setCell ⟨W0.heap.size, 2, none⟩ v2).setCell ⟨W0.heap.size, 3, none⟩ v3) ∧ V.heap.size ≤ W0.heap.size ∧
      ((((Y.setCell ⟨W0.heap.size, 0, none⟩ v0).setCell ⟨W0.heap.size, 1, none⟩ v1).setCell ⟨W0.heap.size, 2, none⟩ v2).setCell ⟨W0.heap.size, 3, none⟩ v3).heap[W0.heap.size]? = some (.cells #[v0, v1, v2, v3] T (0, 0)) :=
  ⟨h'.trans (box4 h v0 v1 v2 v3).1 (fun _ _ e => e), h'.size, (box4 h v0 v1 v2 v3).2⟩
theorem quoted_any (b : Nat) (s : ByteArray) (at' col : Nat) (v : Value) (w : World) (h : LineAt w b s at' col v) (hn : at' < s.size) (hs : s.size ≤ 1000000) (hcol : col ≤ at' + 1) :
    Calls Tryd.prog 26 #[.pointer (some ⟨b, 0, none⟩)] w (QuoPost s b at' v w (quo s (at' + 1) (col + 1))) := by
  obtain ⟨R, hR⟩ : ∃ R, quo s (at' + 1) (col + 1) = R := ⟨_, rfl⟩
  rw [hR]
  obtain ⟨jb, c0, c1, _, _⟩ := h.cells
  have ht := take_any b s at' col 1 1 v w h (by omega) (by omega) (by omega)
  rw [show ((1 : Nat) : Int) = 1 from rfl] at ht
  have HH := Lib.hid (And.intro hR (And.intro hn (And.intro hs hcol)))
  clear hR hn hs hcol h
  go_enter Tryd.func26, Tryd.ntmps26
  go_wp2_with fail
  go_at_call 23
  refine ht.mono ?_
  rintro e X ⟨rfl, hcX, hL⟩
  have HX := Lib.hid (And.intro hcX hL)
  clear ht c0 c1 jb hcX hL
  go_wp2_with fail
  go_loopw [2, 3] (fun a2 a3 wr => ∃ (p cl : Nat), Chg (fun j => j = b) w wr ∧ LineAt wr b s p cl v ∧ p ≤ s.size ∧ cl ≤ p + 1 ∧ quo s p cl = R ∧ at' + 1 ≤ p) (fun a2 a3 wr => s.size - ((wr.cell? ⟨b, 1, none⟩).map intOf).getD 0 |>.toNat)
  case atStart => exact ⟨at' + 1, col + 1, HX.out.1, HX.out.2, (by have := HH.out.2.1; omega), (by have := HH.out.2.2.2; omega), HH.out.1, Nat.le_refl _⟩
  case round =>
    obtain ⟨p, cl, hc, hL, hp, hcl, hR, hap⟩ := hrel
    obtain ⟨jb, c0, c1, c2, _⟩ := hL.cells
    have sz := HH.out.2.2.1
    by_cases hlt : p < s.size
    · have x1 : decide (p < s.size) = true := decide_eq_true hlt
      have g2 : (p : Int) ≤ (s.size : Int) := by omega
      have g3 : (0 : Int) ≤ (p : Int) := by omega
      obtain ⟨t, hxt⟩ : ∃ t, s.extract p s.size = t := ⟨_, rfl⟩
      have hF := fun W => first_any t W (by rw [← hxt, size_ext]; omega)
      have e1 : rn t 0 = rn s p := by rw [← hxt, rn_ext, Nat.add_zero]
      have e2 : wd t 0 = wd s p := by rw [← hxt, wd_ext, Nat.add_zero]
      have e3 : lo t 0 = lo s p := by rw [← hxt, lo_ext, Nat.add_zero]
      rw [e1, e2, e3] at hF
      have HT := Lib.hid hxt
      rw [quo_step hlt] at hR
      have HR := Lib.hid (And.intro hR (And.intro hlt (And.intro hc (And.intro hL (And.intro hp (And.intro hcl sz))))))
      clear e1 e2 e3 hR hlt hc hL hp hcl sz
      go_wp2_with fail
      refine wp_region_grows (by kernel_rfl) (by kernel_rfl) ?_
      repeat (go_big_quiet_step ((fail)))
      refine wpQuiet_nil ?_
      rintro _ ⟨g1, rfl⟩
      go_upto_region 4 with (fail)
      go_cut [5] (fun s5 wx => ∃ c, s5 = .pointer (some ⟨c, 0, none⟩) ∧ Chg Noth wr wx ∧ wr.heap.size ≤ c ∧ wx.heap[c]? = some (.cells #[.int .i32 (rn s p), .int .i64 0, .int .i64 (wd s p), .bool (lo s p)] 68 (0, 0)))
      case first =>
        go_region_law (first | (go_simp; go_at_call 21; refine (hF _).mono ?_; rintro e w' ⟨rfl, g, rfl⟩))
        all_goals (go_wp2_with fail; go_meet)
        all_goals (refine ⟨_, rfl, ?_⟩)
        all_goals (first
          | ((with_reducible refine boxA ?_); (repeat (with_reducible first | exact Chg.refl _ _ | refine chg_m ?_ _ | refine chg_g ?_ _ | refine chg_drew ?_)))
          | (have h' := Chg.undrew g.h; with_reducible exact boxB g1.h h')
          | (have h' := g.h; with_reducible exact boxB g1.h h'))
      case rest =>
        obtain ⟨ch, rfl, hcw, hge, hCh⟩ := hcut
        have hLw : LineAt wc b s p cl v := HR.out.2.2.2.1.grow hcw
        have HK := Lib.hid (And.intro hcw (And.intro hge hCh))
        clear c0 c1 c2 jb hcw hge hCh
        obtain ⟨jb, c0, c1, c2, _⟩ := hLw.cells
        have jc : Old ch wc := ⟨(Array.getElem?_eq_some_iff.1 HK.out.2.2).1⟩
        have z0 : wc.cell? ⟨ch, 0, none⟩ = some (.int .i32 (rn s p)) := by rw [cell_of_row _ _ _ _ _ _ HK.out.2.2]; rfl
        have z1 : wc.cell? ⟨ch, 1, none⟩ = some (.int .i64 0) := by rw [cell_of_row _ _ _ _ _ _ HK.out.2.2]; rfl
        have z2 : wc.cell? ⟨ch, 2, none⟩ = some (.int .i64 (wd s p)) := by rw [cell_of_row _ _ _ _ _ _ HK.out.2.2]; rfl
        have z3 : wc.cell? ⟨ch, 3, none⟩ = some (.bool (lo s p)) := by rw [cell_of_row _ _ _ _ _ _ HK.out.2.2]; rfl
        have HLw := Lib.hid hLw
        clear hLw
        have hcall : Chg (fun j => j = b) w wc := HR.out.2.2.1.trans HK.out.1 (fun _ _ e => e.elim)
        have HC := Lib.hid hcall
        clear hcall
        by_cases h34 : rn s p = 34
        · have hR := HR.out.1
          rw [if_pos h34] at hR
          have HRR := Lib.hid hR
          have ht := take_any b s p cl 1 1 v wc HLw.out (by have := HR.out.2.1; omega) (by have := HH.out.2.2.1; omega) (by have := HR.out.2.2.2.2.2.1; have := HR.out.2.2.2.2.2.2; omega)
          rw [show ((1 : Nat) : Int) = 1 from rfl] at ht
          rw [h34] at z0
          clear hR h34 hF
          go_wp2_with (go_at_call 23; refine ht.mono ?_; rintro e X1 ⟨rfl, c3, hL3⟩; obtain ⟨jb3, d0, d1, d2, _⟩ := hL3.cells; have H3 := Lib.hid (And.intro c3 hL3); have k1 : ((p + 1 : Nat) : Int) ≤ (s.size : Int) := (by have := HR.out.2.1; omega); have k2 : (at' : Int) ≤ ((p + 1 : Nat) : Int) := (by omega); have k3 : (0 : Int) ≤ (at' : Int) := (by omega); clear c3 hL3 ht)
          refine wp_region_grows (by kernel_rfl) (by kernel_rfl) ?_
          repeat (go_big_quiet_step ((fail)))
          refine wpQuiet_nil ?_
          rintro _ ⟨g4, rfl⟩
          go_wp2_with fail
          refine bodyPost_ret (v := .tuple #[.string (s.extract at' (p + 1)), .int .i64 0]) (by simp [results, Tryd.results26, go_sem]) rfl ?_
          unfold QuoPost
          rw [← HRR.out]
          exact ⟨rfl, (HC.out.trans H3.out.1 (fun _ _ e => e)).trans g4.h (fun _ _ e => e.elim), H3.out.2.grow g4.h⟩
        by_cases h92 : rn s p = 92
        · have hR := HR.out.1
          rw [if_neg h34, if_pos h92] at hR
          have h0 := (at_rn HR.out.2.1 (c := 92) (by omega) h92).1
          have hex : esc t 0 = esc s p := by rw [← hxt, esc_ext]
          have hE := fun W => escape_v t W
          unfold escRes at hE
          rw [hex] at hE
          rw [h92] at z0
          cases he : esc s p with
          | none =>
            rw [he] at hE hR
            simp only at hE hR
            have HRR := Lib.hid hR
            clear hR h34 h92 hF h0 hex he
            go_wp2_with fail
            refine wp_region_grows (by kernel_rfl) (by kernel_rfl) ?_
            repeat (go_big_quiet_step ((go_at_call 41; exact grows_of (gc_gr (hE _)))))
            refine wpQuiet_nil ?_
            rintro _ ⟨g4, rfl⟩
            go_wp2_with fail
            refine bodyPost_ret (v := .tuple #[.string ⟨#[]⟩, .int .i64 12]) (by simp [results, Tryd.results26, go_sem]) rfl ?_
            unfold QuoPost
            rw [← HRR.out]
            exact ⟨rfl, HC.out.trans g4.h (fun _ _ e => e.elim), p, HLw.out.grow g4.h⟩
          | some x =>
            obtain ⟨bb, n⟩ := x
            rw [he] at hE hR
            simp only at hE hR
            obtain ⟨hle, hn2, hn11, hcnt⟩ := cnt_esc s p h0 he
            have hCt := fun W => count_any (s.extract p (p + n)) W (by rw [ByteArray.size_extract]; omega)
            rw [hcnt] at hCt
            have ht := fun W hL => take_any b s p cl n n v W hL hle (by have := HH.out.2.2.1; omega) (by have := HR.out.2.2.2.2.2.1; have := HR.out.2.2.2.2.2.2; omega)
            have hpn : wrap64 ((p : Int) + (n : Int)) = ((p + n : Nat) : Int) := by rw [wid] <;> (have := HR.out.2.2.2.2.2.2; omega)
            have k1 : ((p + n : Nat) : Int) ≤ (s.size : Int) := by omega
            have k2 : (p : Int) ≤ ((p + n : Nat) : Int) := by omega
            have HRR := Lib.hid (And.intro hR (And.intro hle hn2))
            clear hR h34 h92 hF h0 hex he hcnt hle hn2 hn11
            go_wp2_with fail
            refine wp_region_grows (by kernel_rfl) (by kernel_rfl) ?_
            repeat (go_big_quiet_step ((go_at_call 41; exact grows_of (gc_gr (hE _)))))
            refine wpQuiet_nil ?_
            rintro _ ⟨g4, rfl⟩
            go_wp2_with fail
            refine wp_region_head_call 18 (by kernel_rfl) (by kernel_rfl) ?_
            simp only [List.take_succ_cons, List.take_zero]
            repeat (go_big_quiet_step ((go_at_call 14; exact grows_of (hCt _))))
            refine wpQuiet_nil ?_
            intro g5 o ho
            simp only [List.getElem?_cons_succ, List.getElem?_cons_zero, Option.some.injEq] at ho
            subst ho
            simp only [List.drop_succ_cons, List.drop_zero]
            go_simp
            go_at_call 23
            refine (ht _ ((HLw.out.grow g4.h).grow g5.h)).mono ?_
            rintro e X1 ⟨rfl, c3, hL3⟩
            have H3 := Lib.hid (And.intro c3 hL3)
            clear c3 hL3 ht
            dsimp only
            unfold RestQ
            repeat (go_big_quiet_step (fail))
            refine wpQuiet_nil ?_
            intro g6
            go_wp2_with fail
            have hLf := H3.out.2.grow g6.h
            have h1 := HRR.out
            have h2 := HR.out.2
            refine ⟨⟨p + n, cl + n, ((((HC.out.trans g4.h (fun _ _ e => e.elim)).trans g5.h (fun _ _ e => e.elim)).trans H3.out.1 (fun _ _ e => e)).trans g6.h (fun _ _ e => e.elim)), hLf, h1.2.1, by omega, h1.1, by omega⟩, ?_⟩
            rw [hLf.cells.2.2.1, h2.2.2.1.cells.2.2.1]
            simp [intOf]
            omega
        · have hR := HR.out.1
          rw [if_neg h34, if_neg h92] at hR
          have y34 : (rn s p == 34) = false := beq_eq_false_iff_ne.2 h34
          have y92 : (rn s p == 92) = false := beq_eq_false_iff_ne.2 h92
          have hS := fun W => stands_any s p W
          cases hst : stands s p with
          | false =>
            rw [hst] at hS hR
            rw [if_neg (by simp)] at hR
            have HRR := Lib.hid hR
            clear hR h34 h92 hF hst
            go_wp2_with (go_at_call 42; refine (hS _).mono ?_; rintro e X1 ⟨rfl, c3⟩)
            refine bodyPost_ret (v := .tuple #[.string ⟨#[]⟩, .int .i64 10]) (by simp [results, Tryd.results26, go_sem]) rfl ?_
            unfold QuoPost
            rw [← HRR.out]
            exact ⟨rfl, HC.out.trans c3 (fun _ _ e => e.elim), p, HLw.out.grow c3⟩
          | true =>
            rw [hst] at hS hR
            rw [if_pos rfl] at hR
            have HRR := Lib.hid hR
            have hwl := wd_le s p HR.out.2.1
            have hwp := wd_pos s p
            have ht := fun W hL => take_any b s p cl (wd s p) 1 v W hL hwl (by have := HH.out.2.2.1; omega) (by have := HR.out.2.2.2.2.2.1; have := HR.out.2.2.2.2.2.2; omega)
            rw [show ((1 : Nat) : Int) = 1 from rfl] at ht
            have HW := Lib.hid (And.intro hwl hwp)
            clear hR h34 h92 hF hst hwl hwp
            go_wp2_with fail
            go_at_call 42
            refine (hS _).mono ?_
            rintro e X1 ⟨rfl, c3⟩
            have hz2 := (keepc c3 z2 jc).1
            have jc1 := (keepc c3 z2 jc).2
            have hL1 := Lib.hid (HLw.out.grow c3)
            have C3 := Lib.hid c3
            clear c3 z0 z1 z3 c0 c1 c2
            go_wp2_with fail
            go_at_call 23
            refine (ht _ hL1.out).mono ?_
            rintro e X2 ⟨rfl, c4, hL4⟩
            have H4 := Lib.hid (And.intro c4 hL4)
            clear c4 hL4
            go_wp2_with fail
            have hLf := H4.out.2
            have h1 := HRR.out
            have h2 := HR.out.2
            have h3 := HW.out
            refine ⟨⟨p + wd s p, cl + 1, ((HC.out.trans C3.out (fun _ _ e => e.elim)).trans H4.out.1 (fun _ _ e => e)), hLf, h3.1, by omega, h1, by omega⟩, ?_⟩
            rw [hLf.cells.2.2.1, h2.2.2.1.cells.2.2.1]
            simp [intOf]
            omega
    · have hR' := hR
      rw [quo_end hlt] at hR'
      have x1 : decide (p < s.size) = false := decide_eq_false hlt
      have HRR := Lib.hid (And.intro hR' (And.intro hc hL))
      clear hR hR' hlt hc hL
      go_wp2_with fail
      refine wp_region_grows (by kernel_rfl) (by kernel_rfl) ?_
      repeat (go_big_quiet_step ((fail)))
      refine wpQuiet_nil ?_
      rintro _ ⟨g1, rfl⟩
      go_wp2_with fail
      refine bodyPost_ret (v := .tuple #[.string ⟨#[]⟩, .int .i64 11]) (by simp [results, Tryd.results26, go_sem]) rfl ?_
      unfold QuoPost
      rw [← HRR.out.1]
      exact ⟨rfl, HRR.out.2.1.trans g1.h (fun _ _ e => e.elim), p, HRR.out.2.2.grow g1.h⟩
end Go.Proofs.YtkamjhhaghkdmaaDoor
namespace Go.Ear
set_option linter.unusedSimpArgs false
set_option linter.unusedVariables false
theorem ext_sub (s : ByteArray) (p n : Nat) : s.extract p (p + n) = ⟨(sub s p n).toArray⟩ := by
  apply ByteArray.ext
  rw [ByteArray.data_extract]
  apply Array.ext'
  rw [Array.toList_extract, List.extract_eq_take_drop, Nat.add_sub_cancel_left]
  rfl
theorem run_first {s : ByteArray} {p : Nat} (h : p < s.size) (hc : cls (rn s p) = 3 ∨ cls (rn s p) = 4) : p < (run s p).1 ∧ (run s p).1 ≤ s.size ∧ 1 ≤ (run s p).2 ∧ (run s p).2 ≤ (run s p).1 - p := by
  have e : run s p = runs s p 0 := rfl
  have hw := wd_pos s p
  have hl := wd_le s p h
  rw [e, runs_step 0 h, if_pos hc]
  have := runF_le s (s.size - (p + wd s p)) (p + wd s p) 1 hl
  rw [← show runs s (p + wd s p) 1 = runF s (s.size - (p + wd s p)) (p + wd s p) 1 from rfl] at this
  rw [show 0 + 1 = 1 from rfl]
  omega
theorem mark_wd (s : ByteArray) (p : Nat) (h : cls (rn s p) = 5) : wd s p = 1 := by
  have hr : rn s p < 128 := by
    unfold cls at h
    split at h
    · omega
    split at h
    · omega
    split at h
    · omega
    split at h
    · omega
    split at h
    · split at h <;> omega
    split at h
    · omega
    split at h
    · omega
    · omega
  exact (rn_low s p hr).1
theorem quoF_quo (s : ByteArray) (p col : Nat) : quoF s (s.size - p) p col = quo s p col := rfl
theorem wordsF_more (s : ByteArray) : ∀ (f g p col : Nat) (out : List Wd), s.size ≤ p + f → s.size ≤ p + g → wordsF s f p col out = wordsF s g p col out
  | 0, 0, _, _, _, _, _ => rfl
  | 0, g + 1, p, col, out, h, _ => by simp only [wordsF]; rw [if_neg (by omega)]
  | f + 1, 0, p, col, out, _, h => by simp only [wordsF]; rw [if_neg (by omega)]
  | f + 1, g + 1, p, col, out, h, h' => by
    have hw := (wd_pos s p).1
    simp only [wordsF]
    by_cases hp : p < s.size
    · rw [if_pos hp, if_pos hp]
      by_cases h1 : cls (rn s p) = 1
      · rw [if_pos h1, if_pos h1]
        exact wordsF_more s f g _ _ _ (by omega) (by omega)
      rw [if_neg h1, if_neg h1]
      by_cases h2 : rn s p = 35
      · rw [if_pos h2, if_pos h2]
      rw [if_neg h2, if_neg h2]
      by_cases h3 : rn s p = 34
      · rw [if_pos h3, if_pos h3]
        rw [quoF_quo]
        have hq := (quo_le s _ (p + 1) (col + 1) rfl (by omega)).1
        cases he : quo s (p + 1) (col + 1) with
        | error e => rfl
        | ok x =>
          obtain ⟨q, c⟩ := x
          have := hq q c he
          simp only
          exact wordsF_more s f g _ _ _ (by omega) (by omega)
      rw [if_neg h3, if_neg h3]
      by_cases h4 : cls (rn s p) = 5
      · rw [if_pos h4, if_pos h4]
        exact wordsF_more s f g _ _ _ (by omega) (by omega)
      rw [if_neg h4, if_neg h4]
      by_cases h5 : cls (rn s p) = 4
      · rw [if_pos h5, if_pos h5]
        have := run_first hp (.inr h5)
        split
        · rfl
        · exact wordsF_more s f g _ _ _ (by omega) (by omega)
      rw [if_neg h5, if_neg h5]
      by_cases h6 : cls (rn s p) = 3
      · rw [if_pos h6, if_pos h6]
        have := run_first hp (.inl h6)
        split
        · rfl
        · exact wordsF_more s f g _ _ _ (by omega) (by omega)
      rw [if_neg h6, if_neg h6]
    · rw [if_neg hp, if_neg hp]
/-- The words from p on. -/
def wsF (s : ByteArray) (p col : Nat) (out : List Wd) : Except (Int × Nat) (List Wd) := wordsF s (s.size - p) p col out
theorem ws_end {s : ByteArray} {p : Nat} (col : Nat) (out : List Wd) (h : ¬ p < s.size) : wsF s p col out = .ok out := by
  unfold wsF
  rw [show s.size - p = 0 by omega]
  rfl
theorem ws_step {s : ByteArray} {p : Nat} (col : Nat) (out : List Wd) (h : p < s.size) : wsF s p col out =
      if cls (rn s p) = 1 then wsF s (p + wd s p) (col + 1) out
      else if rn s p = 35 then .ok out
      else if rn s p = 34 then (match quo s (p + 1) (col + 1) with
        | .error e => .error e
        | .ok (q, col') => wsF s q col' (out ++ [⟨4, sub s p (q - p), col⟩]))
      else if cls (rn s p) = 5 then wsF s (p + 1) (col + 1) (out ++ [⟨5, sub s p 1, col⟩])
      else if cls (rn s p) = 4 then (if 128 < (run s p).2 then .error (22, col) else wsF s (run s p).1 (col + (run s p).2) (out ++ [⟨2, sub s p ((run s p).1 - p), col⟩]))
      else if cls (rn s p) = 3 then (if numW (sub s p ((run s p).1 - p)) < 0 then .error (21, col) else wsF s (run s p).1 (col + (run s p).2) (out ++ [⟨3, sub s p ((run s p).1 - p), col⟩]))
      else .error (20, col) := by
  have hw := (wd_pos s p).1
  obtain ⟨f, hf⟩ : ∃ f, s.size - p = f + 1 := ⟨s.size - p - 1, by omega⟩
  have e : wsF s p col out = wordsF s (f + 1) p col out := by
    unfold wsF
    rw [hf]
  rw [e]
  simp only [wordsF]
  rw [if_pos h]
  by_cases h1 : cls (rn s p) = 1
  · rw [if_pos h1, if_pos h1]
    exact wordsF_more s _ _ _ _ _ (by omega) (by omega)
  rw [if_neg h1, if_neg h1]
  by_cases h2 : rn s p = 35
  · rw [if_pos h2, if_pos h2]
  rw [if_neg h2, if_neg h2]
  by_cases h3 : rn s p = 34
  · rw [if_pos h3, if_pos h3]
    rw [quoF_quo]
    have hq := (quo_le s _ (p + 1) (col + 1) rfl (by omega)).1
    cases he : quo s (p + 1) (col + 1) with
    | error e => rfl
    | ok x =>
      obtain ⟨q, c⟩ := x
      have := hq q c he
      simp only
      exact wordsF_more s _ _ _ _ _ (by omega) (by omega)
  rw [if_neg h3, if_neg h3]
  by_cases h4 : cls (rn s p) = 5
  · rw [if_pos h4, if_pos h4]
    exact wordsF_more s _ _ _ _ _ (by omega) (by omega)
  rw [if_neg h4, if_neg h4]
  by_cases h5 : cls (rn s p) = 4
  · rw [if_pos h5, if_pos h5]
    have := run_first h (.inr h5)
    split
    · rfl
    · exact wordsF_more s _ _ _ _ _ (by omega) (by omega)
  rw [if_neg h5, if_neg h5]
  by_cases h6 : cls (rn s p) = 3
  · rw [if_pos h6, if_pos h6]
    have := run_first h (.inl h6)
    split
    · rfl
    · exact wordsF_more s _ _ _ _ _ (by omega) (by omega)
  rw [if_neg h6, if_neg h6]
theorem words_ws (s : ByteArray) : words s = wsF s 0 1 [] := rfl
end Go.Ear
