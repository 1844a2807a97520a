/- roster.Read: the signs of a text. -/
import Derived.Test.YtkamjhhaghkdmaaDoorH13
import Derived.Test.YtkamjhhaghkdmaaDoorH14
import Derived.Test.YtkamjhhaghkdmaaDoorH15
import Derived.Test.YtkamjhhaghkdmaaDoorH16
import Derived.Lib.OthersKept
namespace Go.Ear
open Go.RowKit
abbrev i32v (n : Int) : Value := .int .i32 n
/-- The entries of the ids' map. -/
def entsF : List Int → Int → List (Int × Value)
  | [], _ => []
  | r :: l, i => (r, .int .i64 i) :: entsF l (i + 1)
def ents (l : List Int) : List (Int × Value) := entsF l 0
theorem entsF_add : ∀ (l : List Int) (r i : Int), entsF (l ++ [r]) i = entsF l i ++ [(r, .int .i64 (i + l.length))]
  | [], r, i => by simp [entsF]
  | a :: l, r, i => by
    simp only [List.cons_append, entsF, entsF_add l r (i + 1), List.length_cons]
    rw [show i + 1 + (l.length : Int) = i + ((l.length + 1 : Nat) : Int) by omega]
theorem ents_add (l : List Int) (r : Int) : ents (l ++ [r]) = ents l ++ [(r, .int .i64 (l.length : Int))] := by
  unfold ents
  rw [entsF_add]
  simp
end Go.Ear
namespace Go.Proofs.YtkamjhhaghkdmaaDoor
open Go.RowKit Go.Ear Go.Proofs.YtkamjhhaghkdmaaDoor.PScriptLines
set_option maxHeartbeats 4000000
set_option maxRecDepth 100000
set_option linter.unusedSimpArgs false
set_option linter.unusedVariables false
theorem mlook_ents : ∀ (l : List Int) (r i : Int), mlook (entsF l i) r = if r ∈ l then some (.int .i64 (fnd l r i)) else none
  | [], r, i => by simp [mlook, entsF]
  | a :: l, r, i => by
    simp only [entsF, mlook, fnd, mlook_ents l r (i + 1)]
    by_cases h : a = r
    · simp [h]
    · simp [h, Ne.symm h]
/-- A roster in memory: its signs, and the map of them. -/
def RosterIs (w : World) (v : Value) (l : List Int) : Prop :=
  ∃ (t : ByteArray) (A : Option Addr) (c : Nat) (m : Value), v = .agg #[.string t, .slice A l.length c, m] ∧ w.ownsRow 0 21 1 (.slice A l.length c) l.length (l.map i32v) ∧ l.length ≤ 100 ∧
    ((l = [] ∧ m = .map none) ∨ ∃ b, m = .map (some b) ∧ MapIs w b .i32 (ents l))
theorem RosterIs.grow {w w' : World} {v : Value} {l : List Int} (h : RosterIs w v l) (hc : Chg Noth w w') : RosterIs w' v l := by
  obtain ⟨t, A, c, m, h1, h2, h3, h4⟩ := h
  refine ⟨t, A, c, m, h1, own_chg h2 hc (fun _ _ e => e), h3, ?_⟩
  rcases h4 with h4 | ⟨b, h4, h5⟩
  · exact .inl h4
  · exact .inr ⟨b, h4, h5.grow hc (fun e => e)⟩
theorem RosterIs.far {F : Nat → Prop} {w w' : World} {v : Value} {l : List Int} (h : RosterIs w v l) (hc : Chg F w w') (hF : ∀ k, F k → ∃ cs t z, w.heap[k]? = some (.cells cs t z) ∧ t ≠ 21) : RosterIs w' v l := by
  obtain ⟨t, A, c, m, h1, h2, h3, h4⟩ := h
  refine ⟨t, A, c, m, h1, own_chg h2 hc (fun k hk hf => ?_), h3, ?_⟩
  · obtain ⟨cs, t', z, hb, hne⟩ := hF k hf
    exact own_ne h2 hb (Ne.symm hne) k hk rfl
  · rcases h4 with h4 | ⟨b, h4, h5⟩
    · exact .inl h4
    · refine .inr ⟨b, h4, h5.grow hc fun hf => ?_⟩
      obtain ⟨cs, t', z, hb, _⟩ := hF b hf
      obtain ⟨es, clock, h6, _⟩ := h5
      rw [h6] at hb
      cases hb
theorem clone_any (s : ByteArray) (w : World) (hs : s.size ≤ 281474976710656) : Calls Tryd.prog 13 #[.string s] w (Gr (.string s) w) := by
  go_enter Tryd.func13, Tryd.ntmps13
  go_wp2_with (go_at_call 27; refine (Tryd.stringslite_Clone _ _ hs).mono ?_; rintro e w' ⟨rfl, hb⟩)
  go_ret
  exact gr_mk rfl (Chg.of_below hb)
theorem class_any (r : Int) (w : World) : Calls Tryd.prog 22 #[.int .i32 r] w (Gr (.int .i64 (cls r)) w) := by
  refine (glyph_Class.calls 8 r (cls r) w (class_eq 0 r)).mono ?_
  rintro e w' ⟨rfl, hd⟩
  exact gr_mk rfl (Chg.of_below hd.below)
/-- What roster.Read answers. -/
def RosTo (s : ByteArray) (w : World) : Ending → World → Prop := fun e w' =>
  ∃ v, e = .returned (.tuple #[v, .int .i64 (rosS s).2.1, .int .i64 (rosS s).2.2]) ∧ RosterIs w' v (rosS s).1 ∧ Chg Noth w w'
theorem infoI32 : (Tryd.prog.info? 21).map (fun i => (i.zero, i.size, i.bytes)) = some (some (.int .i32 0), 1, 4) := by kernel_rfl
theorem info_parts' {P : Program} {t : TypeId} {z : Value} {n b : Nat} (h : (P.info? t).map (fun i => (i.zero, i.size, i.bytes)) = some (some z, n, b)) : ∃ i, P.info? t = some i ∧ i.zero = some z ∧ i.size = n ∧ i.bytes = b := by
  cases hi : P.info? t with
  | none => rw [hi] at h; cases h
  | some i => rw [hi] at h; simp at h; exact ⟨i, rfl, h.1, h.2.1, h.2.2⟩
theorem heap_new_hs (W : World) (o : Obj) (n : Nat) [h : HS W n] : (W.alloc o).heap[n]? = some o := by rw [← h.eq]; exact heap_alloc_new W o
instance mayEq (k : Nat) (a : World) : May k (fun j => j = k) a := ⟨.inl rfl⟩
theorem iterAt_chg {w wr : World} {k : Nat} (h : Chg Noth w wr) (hk : w.heap.size ≤ k) (s : ByteArray) (pos : Nat) : Chg Noth w (wr.iterAt k s pos) :=
  ⟨h.os, h.tape, h.output, by rw [Lib.iterAt_size]; exact h.size, fun j hj _ => (Lib.iterAt_other wr k j s pos (by omega)).trans (h.block j hj (fun e => e))⟩
set_option linter.unusedVariables false in
theorem ros_any (s : ByteArray) (w : World) : Calls Tryd.prog 34 #[.string s] w (RosTo s w) := by
  have hcl := class_any
  have hclo := clone_any s
  by_cases h1 : 65536 < s.size
  · have hv : rosS s = ([], 0, 2) := by unfold rosS; rw [if_pos h1]
    have x1 : decide ((65536 : Int) < (s.size : Int)) = true := decide_eq_true (by omega)
    have HV := Lib.hid hv
    clear hv
    go_enter Tryd.func34, Tryd.ntmps34
    go_wp2
    refine bodyPost_ret (v := .tuple #[.agg #[.string ⟨#[]⟩, .slice none 0 0, .map none], .int .i64 0, .int .i64 2]) (by simp [results, Tryd.results34, go_sem]) rfl ?_
    refine ⟨_, by rw [HV.out], ?_, (by repeat (with_reducible first | exact Chg.refl _ _ | assumption | refine chg_m ?_ _ | refine chg_g ?_ _ | refine chg_alloc ?_ _ | refine chg_drew ?_ | refine chg_drewN ?_ _ | refine chg_set ?_ _ _ _))⟩
    rw [HV.out]
    exact ⟨_, none, 0, _, rfl, World.ownsRow_nil _ _ _ _, by simp, .inl ⟨rfl, rfl⟩⟩
  have x1 : decide ((65536 : Int) < (s.size : Int)) = false := decide_eq_false (by omega)
  by_cases h2 : s.size = 0
  · have hv : rosS s = ([], 0, 40) := by unfold rosS; rw [if_neg h1, if_pos h2]
    have x2 : s.toList.isEmpty = true := by
      rw [← decide_eq_emptyBytes]
      exact decide_eq_true (by apply ByteArray.ext; exact Array.eq_empty_of_size_eq_zero h2)
    have HV := Lib.hid hv
    clear hv
    go_enter Tryd.func34, Tryd.ntmps34
    go_wp2
    refine bodyPost_ret (v := .tuple #[.agg #[.string ⟨#[]⟩, .slice none 0 0, .map none], .int .i64 0, .int .i64 40]) (by simp [results, Tryd.results34, go_sem]) rfl ?_
    refine ⟨_, by rw [HV.out], ?_, (by repeat (with_reducible first | exact Chg.refl _ _ | assumption | refine chg_m ?_ _ | refine chg_g ?_ _ | refine chg_alloc ?_ _ | refine chg_drew ?_ | refine chg_drewN ?_ _ | refine chg_set ?_ _ _ _))⟩
    rw [HV.out]
    exact ⟨_, none, 0, _, rfl, World.ownsRow_nil _ _ _ _, by simp, .inl ⟨rfl, rfl⟩⟩
  have hv : rosS s = ros (runes s 0) [] := by unfold rosS; rw [if_neg h1, if_neg h2]
  have HV := Lib.hid hv
  clear hv
  have x2 : s.toList.isEmpty = false := by
    rw [← decide_eq_emptyBytes]
    exact decide_eq_false (fun h => h2 (by rw [h]; rfl))
  have hmm := @run_makeMap Tryd.prog
  obtain ⟨i0, hi0, hz0, hz1, hz2⟩ := info_parts' infoI32
  go_enter Tryd.func34, Tryd.ntmps34
  go_wp2_with fail
  refine (hclo _ (by omega)).mono ?_
  rintro e W1 ⟨rfl, g, e1⟩
  have c1 : Chg Noth w W1 := by rw [e1]; exact chg_g (chg_alloc (Chg.refl _ _) _) g
  have hz : W1.heap[w.heap.size]? = some (.cells #[.string ⟨#[]⟩, .slice none 0 0, .map none] 44 (0, 0)) := by
    rw [e1]
    exact (g.h.block _ (by simp) (fun e => e)).trans (heap_alloc_new _ _)
  clear e1 g
  obtain ⟨B, hB⟩ : ∃ B, W1.heap.size = B := ⟨_, rfl⟩
  have hwB : w.heap.size < B := by rw [← hB]; exact (Array.getElem?_eq_some_iff.1 hz).1
  have hM0 : MapIs (W1.alloc (.map #[] 0)) B .i32 [] := hB ▸ MapIs.made W1 .i32
  have C1 := Lib.hid c1
  have HZ := Lib.hid hz
  have HM0 := Lib.hid hM0
  clear c1 hz hM0 hclo
  go_wp2
  go_loopw [] (fun wr => ∃ (p : Nat) (l : List Int) (A : Option Addr) (c : Nat), Chg Noth w wr ∧ wr.heap[w.heap.size]? = some (.cells #[.string ⟨#[]⟩, .slice none 0 0, .map none] 44 (0, 0)) ∧
    wr.heap[B + 1]? = some (.cells #[.string s, .slice A l.length c, .map (some B)] 44 (0, 0)) ∧ wr.ownsRow (B + 3) 21 1 (.slice A l.length c) l.length (l.map i32v) ∧ MapIs wr B .i32 (ents l) ∧
    wr.heap[B + 2]? = some (.stringIter s p) ∧ l.length ≤ 100 ∧ p ≤ s.size ∧ ros (runes s p) l = rosS s) (fun wr => s.size - wr.iterPos (B + 2))
  case atStart =>
    have hB1 : (W1.alloc (.map #[] 0)).heap.size = B + 1 := by simp [hB]
    have hB2 : ((W1.alloc (.map #[] 0)).alloc (.cells #[.string s, .slice none 0 0, .map (some B)] 44)).heap.size = B + 2 := by simp [hB]
    have cc : Chg Noth W1 ((((W1.alloc (.map #[] 0)).alloc (.cells #[.string s, .slice none 0 0, .map (some B)] 44))).iter s 0) := chg_alloc (chg_alloc (chg_alloc (Chg.refl _ _) _) _) _
    have cm : Chg Noth (W1.alloc (.map #[] 0)) ((((W1.alloc (.map #[] 0)).alloc (.cells #[.string s, .slice none 0 0, .map (some B)] 44))).iter s 0) := chg_alloc (chg_alloc (Chg.refl _ _) _) _
    have cs : Chg Noth ((W1.alloc (.map #[] 0)).alloc (.cells #[.string s, .slice none 0 0, .map (some B)] 44)) ((((W1.alloc (.map #[] 0)).alloc (.cells #[.string s, .slice none 0 0, .map (some B)] 44))).iter s 0) := chg_alloc (Chg.refl _ _) _
    refine ⟨0, [], none, 0, C1.out.trans cc (fun _ _ e => e), (cc.block _ (by omega) (fun e => e)).trans HZ.out, ?_, World.ownsRow_nil _ _ _ _, HM0.out.grow cm (fun e => e), ?_, by simp, by omega, HV.out.symm⟩
    · refine (cs.block _ (by omega) (fun e => e)).trans ?_
      have := heap_alloc_new (W1.alloc (.map #[] 0)) (.cells #[.string s, .slice none 0 0, .map (some B)] 44)
      rwa [hB1] at this
    · have := World.iter_heap ((W1.alloc (.map #[] 0)).alloc (.cells #[.string s, .slice none 0 0, .map (some B)] 44)) s 0
      rwa [hB2] at this
  case round =>
    obtain ⟨p, l, A, c, hc, hz, hst, hown, hM, hit, hl, hp, hros⟩ := hrel
    have hsz : B + 2 < wr.heap.size := (Array.getElem?_eq_some_iff.1 hit).1
    by_cases hlt : p < s.size
    · have hnx : ∀ ty, (Instr.next (.pointer (some ⟨B + 2, 0, none⟩)) true ty).run Tryd.prog wr = _ := fun ty => Lib.run_next_any_at wr (B + 2) s p ty hit hlt
      have hwd := wd_pos s p
      have hwl := wd_le s p hlt
      have hrb := rn_bound s p
      simp only [← show rn s p = ((Utf8.decode s p).1 : Int) from rfl, ← show wd s p = (Utf8.decode s p).2 from rfl] at hnx
      obtain ⟨W2, hW2⟩ : ∃ W2, wr.iterAt (B + 2) s (p + wd s p) = W2 := ⟨_, rfl⟩
      have hcw : Chg Noth w W2 := by rw [← hW2]; exact iterAt_chg hc (by omega) _ _
      have hoth : ∀ j, j ≠ B + 2 → W2.heap[j]? = wr.heap[j]? := fun j hj => by rw [← hW2]; exact Lib.iterAt_other _ _ _ _ _ hj
      have hit2 : W2.heap[B + 2]? = some (.stringIter s (p + wd s p)) := by rw [← hW2]; exact Lib.iterAt_heap _ _ _ _ _ hit
      have hsz2 : W2.heap.size = wr.heap.size := by rw [← hW2]; exact Lib.iterAt_size _ _ _ _
      rw [hW2] at hnx
      have hz2 := (hoth _ (by omega)).trans hz
      have hst2 := (hoth _ (by omega)).trans hst
      have hM2 := hM.keep (hoth _ (by omega))
      have hown2 : W2.ownsRow (B + 3) 21 1 (.slice A l.length c) l.length (l.map i32v) := own_kept hown fun k hk => hoth k (by have := (hown.lt k hk).1; omega)
      rw [runes_step hlt] at hros
      have jz : Old w.heap.size W2 := ⟨by omega⟩
      have js : Old (B + 1) W2 := ⟨by omega⟩
      have jm : Old B W2 := ⟨by omega⟩
      have ji : Old (B + 2) W2 := ⟨by omega⟩
      have st0 : W2.cell? ⟨B + 1, 0, none⟩ = some (.string s) := by rw [cell_of_row _ _ _ _ _ _ hst2]; rfl
      have st1 : W2.cell? ⟨B + 1, 1, none⟩ = some (.slice A l.length c) := by rw [cell_of_row _ _ _ _ _ _ hst2]; rfl
      have st2 : W2.cell? ⟨B + 1, 2, none⟩ = some (.map (some B)) := by rw [cell_of_row _ _ _ _ _ _ hst2]; rfl
      have z0 : W2.cell? ⟨w.heap.size, 0, none⟩ = some (.string ⟨#[]⟩) := by rw [cell_of_row _ _ _ _ _ _ hz2]; rfl
      have z1 : W2.cell? ⟨w.heap.size, 1, none⟩ = some (.slice none 0 0) := by rw [cell_of_row _ _ _ _ _ _ hz2]; rfl
      have z2 : W2.cell? ⟨w.heap.size, 2, none⟩ = some (.map none) := by rw [cell_of_row _ _ _ _ _ _ hz2]; rfl
      have kz0 : HasCell W2 w.heap.size 0 := ⟨by rw [z0]; rfl⟩
      have kz1 : HasCell W2 w.heap.size 1 := ⟨by rw [z1]; rfl⟩
      have kz2 : HasCell W2 w.heap.size 2 := ⟨by rw [z2]; rfl⟩
      have fz : ∀ i, W2.frozen? ⟨w.heap.size, i, none⟩ = false := fun i => frozen_of_row _ _ _ _ _ hz2
      have fs : ∀ i, W2.frozen? ⟨B + 1, i, none⟩ = false := fun i => frozen_of_row _ _ _ _ _ hst2
      have ks1 : HasCell W2 (B + 1) 1 := ⟨by rw [st1]; rfl⟩
      have HS2 := Lib.hid hst2
      have HZ2 := Lib.hid hz2
      have HM2 := Lib.hid hM2
      have HO2 := Lib.hid hown2
      have HI2 := Lib.hid hit2
      have HC2 := Lib.hid hcw
      have IT := Lib.hid hit
      clear hst hst2 hz hz2 hM hM2 hown hown2 hit hit2 hc hcw hoth hW2
      generalize hr : rn s p = r at *
      have HRN := Lib.hid hr
      clear hr
      by_cases hc4 : cls r = 4
      · have hcl := hcl r
        rw [hc4] at hcl
        have hml := mlook_ents l r 0
        by_cases hm : r ∈ l
        · rw [if_pos hm] at hml
          have hlk := HM2.out.lookup_some Tryd.underlying42 Tryd.underlying21 r _ hml
          have hR : rosS s = ([], (l.length : Int), 42) := by rw [← hros]; simp [ros, hc4, hm]
          have HR := Lib.hid hR
          clear hR hros hml
          go_wp2_with (go_at_call 22; refine (hcl _).mono ?_; rintro e w' ⟨rfl, g, rfl⟩)
          refine bodyPost_ret (v := .tuple #[.agg #[.string ⟨#[]⟩, .slice none 0 0, .map none], .int .i64 (l.length : Int), .int .i64 42]) (by simp [results, Tryd.results34, go_sem, *]) rfl ?_
          refine ⟨_, by rw [HR.out], ?_, (by repeat (with_reducible first | exact Chg.refl _ _ | exact HC2.out | assumption | refine chg_m ?_ _ | refine chg_g ?_ _ | refine chg_alloc ?_ _ | refine chg_drew ?_ | refine chg_drewN ?_ _ | refine chg_set ?_ _ _ _))⟩
          rw [HR.out]
          exact ⟨_, none, 0, _, rfl, World.ownsRow_nil _ _ _ _, by simp, .inl ⟨rfl, rfl⟩⟩
        · rw [if_neg hm] at hml
          have hlk := HM2.out.lookup_none (P := Tryd.prog) (z := .int .i64 0) Tryd.underlying42 Tryd.underlying21 r (by kernel_rfl) hml
          by_cases h100 : l.length = 100
          · have hR : rosS s = ([], (l.length : Int), 2) := by rw [← hros]; simp [ros, hc4, hm, h100]
            have HR := Lib.hid hR
            have y1 : ((l.length : Int) == 100) = true := by simp [h100]
            clear hR hros hml h100
            go_wp2_with (go_at_call 22; refine (hcl _).mono ?_; rintro e w' ⟨rfl, g, rfl⟩)
            refine bodyPost_ret (v := .tuple #[.agg #[.string ⟨#[]⟩, .slice none 0 0, .map none], .int .i64 (l.length : Int), .int .i64 2]) (by simp [results, Tryd.results34, go_sem, *]) rfl ?_
            refine ⟨_, by rw [HR.out], ?_, (by repeat (with_reducible first | exact Chg.refl _ _ | exact HC2.out | assumption | refine chg_m ?_ _ | refine chg_g ?_ _ | refine chg_alloc ?_ _ | refine chg_drew ?_ | refine chg_drewN ?_ _ | refine chg_set ?_ _ _ _))⟩
            rw [HR.out]
            exact ⟨_, none, 0, _, rfl, World.ownsRow_nil _ _ _ _, by simp, .inl ⟨rfl, rfl⟩⟩
          · have hR : ros (runes s (p + wd s p)) (l ++ [r]) = rosS s := by rw [← hros]; simp [ros, hc4, hm, show ¬ 100 ≤ l.length by omega]
            have HR := Lib.hid hR
            have y1 : ((l.length : Int) == 100) = false := by simp; omega
            have HML := Lib.hid hml
            clear hR hros hml
            go_wp2_with fail
            refine (hcl _).mono ?_
            rintro e W3 ⟨rfl, g3, e3⟩
            have c3 : Chg Noth W2 W3 := by rw [e3]; exact g3.h
            clear e3 g3
            obtain ⟨W4, hup, hM4, hg4⟩ := (HM2.out.grow c3 (fun e => e)).put_new (P := Tryd.prog) Tryd.underlying42 Tryd.underlying21 r (.int .i64 (l.length : Int)) HML.out
            rw [← ents_add] at hM4
            have c4 : Chg (fun k => k = B) W3 W4 := (Chg.of_grown hg4).mono (fun i _ e => by simpa using e.symm)
            have c34 : Chg (fun k => k = B) W2 W4 := (c3.mono (fun _ _ e => e.elim)).trans c4 (fun _ _ e => e)
            have z4 := c34.size
            have hst4 := (c34.block _ js.lt (by omega)).trans HS2.out
            have hzz4 := (c34.block _ jz.lt (by omega)).trans HZ2.out
            have hit4 := (c34.block _ ji.lt (by omega)).trans HI2.out
            have hown4 : W4.ownsRow (B + 3) 21 1 (.slice A l.length c) l.length (l.map i32v) := own_chg HO2.out c34 fun k hk e => by have := (HO2.out.lt k hk).1; omega
            have u1 : W3.cell? ⟨B + 1, 2, none⟩ = some (.map (some B)) := (c3.cell (p := ⟨B + 1, 2, none⟩) js.lt (fun e => e)).trans st2
            have u2 : W4.cell? ⟨B + 1, 1, none⟩ = some (.slice A l.length c) := by rw [cell_of_row _ _ _ _ _ _ hst4]; rfl
            have u3' : W4.frozen? ⟨B + 1, 1, none⟩ = false := frozen_of_row _ _ _ _ _ hst4
            have u4' : HasCell W4 (B + 1) 1 := ⟨by rw [u2]; rfl⟩
            have js4 : Old (B + 1) W4 := ⟨by have := js.lt; omega⟩
            have H4 := Lib.hid (And.intro hst4 (And.intro hzz4 (And.intro hit4 (And.intro hown4 hM4))))
            have CW4 : Hid (Chg Noth w W4) := Lib.hid (HC2.out.trans c34 (fun i hi e => by omega))
            have Z4 : Hid (B + 3 ≤ W4.heap.size) := Lib.hid (by omega)
            clear hst4 hzz4 hit4 hown4 hM4 hg4 c3 c4 c34 z4
            go_wp2_with (at_builtin; (refine wpList_append_own _ rfl _ _ 41 rfl (B + 3) 21 i0 _ 1 4 Tryd.underlying41 hi0 hz0 hz1 hz2 rfl (by decide) (.slice A l.length c) l.length (l.map i32v) rfl (own_chg (F := Noth) H4.out.2.2.2.1 (by repeat (with_reducible first | exact Chg.refl _ _ | assumption | refine chg_m ?_ _ | refine chg_g ?_ _ | refine chg_alloc ?_ _ | refine chg_drew ?_ | refine chg_drewN ?_ _ | refine chg_set ?_ _ _ _)) fun _ _ e => e) ⟨_, 0, none⟩ 1 1 [.int .i32 r] rfl rfl (World.news_of_block (cs := #[.int .i32 r]) (by exact heap_new_hs _ _ _)) (by intro u hu; simp at hu; subst hu; rfl) (by simp only [maxLen]; omega) (by have := Z4.out; omega) (by have := Z4.out; simp; omega) ?_); intro v1 w1 hown1 hg1 _; obtain ⟨A9, c9, rfl⟩ := own_shape hown1; have f1 : w1.heap[B + 1]? = some (.cells #[.string s, .slice A l.length c, .map (some B)] 44 (0, 0)) := (Chg.block (Chg.of_grown hg1) (B + 1) (by have := Z4.out; simp; omega) (fun e => by have := (H4.out.2.2.2.1.lt _ e).1; omega)).trans ((Below.heap_alloc _ _ _ (by have := Z4.out; omega)).trans H4.out.1); have f2 : w1.frozen? ⟨B + 1, 1, none⟩ = false := frozen_of_row _ _ _ _ _ f1; have f3 : HasCell w1 (B + 1) 1 := ⟨by rw [cell_of_row _ _ _ _ _ _ f1]; rfl⟩; have f4 : w1.cell? ⟨B + 1, 1, none⟩ = some (.slice A l.length c) := (cell_of_row _ _ _ _ _ _ f1).trans rfl; have j1 : Old (B + 1) w1 := ⟨(Array.getElem?_eq_some_iff.1 f1).1⟩; have F1 := Lib.hid f1; clear f1)
            have hcA : Chg (fun k => (Value.slice A l.length c).ownBlock = some k) W4 w1 := (chg_alloc (Chg.refl _ _) _).trans (Chg.of_grown hg1) (fun _ _ e => e)
            have hne : ∀ j, j < B + 3 → ¬ (Value.slice A l.length c).ownBlock = some j := fun j hj e => by have := (H4.out.2.2.2.1.lt _ e).1; omega
            have hS := heap_setCell_same _ _ 1 _ _ (.slice A9 (l.length + 1) c9) F1.out
            have hoth : ∀ j, j < B + 3 → j ≠ B + 1 → (w1.setCell ⟨B + 1, 1, none⟩ (.slice A9 (l.length + 1) c9)).heap[j]? = W4.heap[j]? := fun j hj hj' => (Below.heap_setCell _ _ _ _ hj').trans (hcA.block j (by have := Z4.out; omega) (hne j hj))
            have hit9 := (hoth (B + 2) (by omega) (by omega)).trans H4.out.2.2.1
            refine ⟨⟨p + wd s p, l ++ [r], A9, c9, ?_, (hoth _ (by omega) (by omega)).trans H4.out.2.1, by rw [List.length_append]; exact hS, ?_, (H4.out.2.2.2.2).keep (hoth _ (by omega) (by omega)), hit9, by simp; omega, hwl, HR.out⟩, ?_⟩
            · have cA : Chg Noth w w1 := CW4.out.trans hcA (fun i hi e => absurd e (hne i (by omega)))
              have i1 : Ge (B + 1) w := ⟨by omega⟩
              exact chg_set cA _ _ _
            · rw [List.length_append, List.map_append]
              exact own_chg (F := fun k => k = B + 1) hown1 (chg_set (Chg.refl _ _) _ _ _) fun k hk e => by have := (hown1.lt k hk).1; omega
            · simp only [World.iterPos, hit9, IT.out]
              omega
      · have hcl := hcl r
        have y1 : (cls r != 4) = true := by simpa using hc4
        have hR : rosS s = ([], (l.length : Int), 41) := by rw [← hros]; simp [ros, hc4]
        have HR := Lib.hid hR
        have hlk : ∃ v b, (Instr.lookup 42 (.map (some B)) (.int .i32 r) true).run Tryd.prog W2 = .ok (.tuple #[.int .i64 v, .bool b]) W2 := by
          have hml := mlook_ents l r 0
          by_cases hm : r ∈ l
          · rw [if_pos hm] at hml
            exact ⟨_, _, HM2.out.lookup_some Tryd.underlying42 Tryd.underlying21 r _ hml⟩
          · rw [if_neg hm] at hml
            exact ⟨0, false, HM2.out.lookup_none Tryd.underlying42 Tryd.underlying21 r (by kernel_rfl) hml⟩
        obtain ⟨v, b, hlk⟩ := hlk
        clear hR hros
        cases b
        · go_wp2_with (go_at_call 22; refine (hcl _).mono ?_; rintro e w' ⟨rfl, g, rfl⟩)
          refine bodyPost_ret (v := .tuple #[.agg #[.string ⟨#[]⟩, .slice none 0 0, .map none], .int .i64 (l.length : Int), .int .i64 41]) (by simp [results, Tryd.results34, go_sem, *]) rfl ?_
          refine ⟨_, by rw [HR.out], ?_, (by repeat (with_reducible first | exact Chg.refl _ _ | exact HC2.out | assumption | refine chg_m ?_ _ | refine chg_g ?_ _ | refine chg_alloc ?_ _ | refine chg_drew ?_ | refine chg_drewN ?_ _ | refine chg_set ?_ _ _ _))⟩
          rw [HR.out]
          exact ⟨_, none, 0, _, rfl, World.ownsRow_nil _ _ _ _, by simp, .inl ⟨rfl, rfl⟩⟩
        · go_wp2_with (go_at_call 22; refine (hcl _).mono ?_; rintro e w' ⟨rfl, g, rfl⟩)
          refine bodyPost_ret (v := .tuple #[.agg #[.string ⟨#[]⟩, .slice none 0 0, .map none], .int .i64 (l.length : Int), .int .i64 41]) (by simp [results, Tryd.results34, go_sem, *]) rfl ?_
          refine ⟨_, by rw [HR.out], ?_, (by repeat (with_reducible first | exact Chg.refl _ _ | exact HC2.out | assumption | refine chg_m ?_ _ | refine chg_g ?_ _ | refine chg_alloc ?_ _ | refine chg_drew ?_ | refine chg_drewN ?_ _ | refine chg_set ?_ _ _ _))⟩
          rw [HR.out]
          exact ⟨_, none, 0, _, rfl, World.ownsRow_nil _ _ _ _, by simp, .inl ⟨rfl, rfl⟩⟩
    · have hnx : ∀ ty, (Instr.next (.pointer (some ⟨B + 2, 0, none⟩)) true ty).run Tryd.prog wr = _ := fun ty => Lib.run_next_end_at wr (B + 2) s p ty hit hlt
      rw [runes_end hlt] at hros
      simp only [ros] at hros
      have jz : Old w.heap.size wr := ⟨by omega⟩
      have js : Old (B + 1) wr := ⟨by omega⟩
      have st0 : wr.cell? ⟨B + 1, 0, none⟩ = some (.string s) := by rw [cell_of_row _ _ _ _ _ _ hst]; rfl
      have st1 : wr.cell? ⟨B + 1, 1, none⟩ = some (.slice A l.length c) := by rw [cell_of_row _ _ _ _ _ _ hst]; rfl
      have st2 : wr.cell? ⟨B + 1, 2, none⟩ = some (.map (some B)) := by rw [cell_of_row _ _ _ _ _ _ hst]; rfl
      have z0 : wr.cell? ⟨w.heap.size, 0, none⟩ = some (.string ⟨#[]⟩) := by rw [cell_of_row _ _ _ _ _ _ hz]; rfl
      have z1 : wr.cell? ⟨w.heap.size, 1, none⟩ = some (.slice none 0 0) := by rw [cell_of_row _ _ _ _ _ _ hz]; rfl
      have z2 : wr.cell? ⟨w.heap.size, 2, none⟩ = some (.map none) := by rw [cell_of_row _ _ _ _ _ _ hz]; rfl
      have kz0 : HasCell wr w.heap.size 0 := ⟨by rw [z0]; rfl⟩
      have kz1 : HasCell wr w.heap.size 1 := ⟨by rw [z1]; rfl⟩
      have kz2 : HasCell wr w.heap.size 2 := ⟨by rw [z2]; rfl⟩
      have fz : ∀ i, wr.frozen? ⟨w.heap.size, i, none⟩ = false := fun i => frozen_of_row _ _ _ _ _ hz
      have HC2 := Lib.hid hc
      have HM2 := Lib.hid hM
      have HO2 := Lib.hid hown
      have HR : Hid (rosS s = (l, 0, 0)) := Lib.hid hros.symm
      clear hc hM hown hros hst hz hit
      go_wp2
      refine bodyPost_ret (v := .tuple #[.agg #[.string s, .slice A l.length c, .map (some B)], .int .i64 0, .int .i64 0]) (by simp [results, Tryd.results34, go_sem, *]) rfl ?_
      refine ⟨_, by rw [HR.out], ?_, (by repeat (with_reducible first | exact Chg.refl _ _ | exact HC2.out | assumption | refine chg_m ?_ _ | refine chg_g ?_ _ | refine chg_alloc ?_ _ | refine chg_drew ?_ | refine chg_drewN ?_ _ | refine chg_set ?_ _ _ _))⟩
      rw [HR.out]
      have cz : Chg (fun k => k = w.heap.size) wr (((wr.setCell ⟨w.heap.size, 0, none⟩ (.string s)).setCell ⟨w.heap.size, 1, none⟩ (.slice A l.length c)).setCell ⟨w.heap.size, 2, none⟩ (.map (some B))) := chg_set (chg_set (chg_set (Chg.refl _ _) _ _ _) _ _ _) _ _ _
      exact ⟨s, A, c, _, rfl, own_base (own_chg HO2.out cz fun k hk e => by have := (HO2.out.lt k hk).1; omega) (Nat.zero_le _), hl, .inr ⟨B, rfl, HM2.out.grow cz (by omega)⟩⟩
end Go.Proofs.YtkamjhhaghkdmaaDoor
