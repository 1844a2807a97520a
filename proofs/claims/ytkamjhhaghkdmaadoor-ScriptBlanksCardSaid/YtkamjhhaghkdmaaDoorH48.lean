/- script.Parse. script.Parse's deferred closure. -/
import Derived.Test.YtkamjhhaghkdmaaDoorH47
import Derived.Recover
import Derived.Defers
import Derived.Deep.RegionLaw
namespace Go.Proofs.YtkamjhhaghkdmaaDoor
open Go.RowKit Go.Ear Go.Shelf
set_option maxHeartbeats 4000000
set_option maxRecDepth 100000
set_option linter.unusedSimpArgs false
set_option linter.unusedVariables false
theorem scan_err {t : List UInt8} {e : Int} {no c : Nat} (h : scan t = .error (e, no, c)) : e ≠ 0 := by
  have key : ∀ (ls : List (List UInt8)) (k : Nat), scanF k ls = .error (e, no, c) → e ≠ 0 := by
    intro ls
    induction ls with
    | nil => intro k h; cases h
    | cons l ls ih =>
      intro k h
      simp only [scanF] at h
      cases hw : words ⟨l.toArray⟩ with
      | error x =>
        obtain ⟨e', c'⟩ := x
        rw [hw] at h
        simp only [Except.error.injEq, Prod.mk.injEq] at h
        have := ws_err ⟨l.toArray⟩ _ 0 1 [] e' c' rfl (Nat.zero_le _) (by rw [← words_ws]; exact hw)
        omega
      | ok ws =>
        rw [hw] at h
        simp only at h
        cases hr : scanF (k + 1) ls with
        | error x => rw [hr] at h; simp only [Except.error.injEq] at h; exact ih (k + 1) (by rw [hr, h])
        | ok rs => rw [hr] at h; cases h
  unfold scan at h
  split at h
  · simp only [Except.error.injEq, Prod.mk.injEq] at h
    omega
  · exact key _ _ h
def NormP (Q : Exit → Act → World → Prop) : Exit → Act → World → Prop
  | .normal, a, w => Q .normal a w
  | _, _, _ => False
theorem wp_normal {P : Program} {c : Code} {Q : Exit → Act → World → Prop} {a : Act} {w : World} (h : c.wp P (NormP Q) a w) : c.wp P Q a w :=
  wp_mono h (by
    intro e a w h
    cases e with
    | normal => exact h
    | _ => exact h.elim)
/-- What Parse comes to. -/
def ParsePost (w : World) (R : Except (Int × Nat) (List UInt8 × Int × List StepS)) : Ending → World → Prop := fun e X => Chg Noth w X ∧ match R with
  | .error (er, no) => e = .returned (.tuple #[.agg #[.string ⟨#[]⟩, .int .i64 0], .slice none 0 0, .int .i64 er, .int .i64 (no : Int)])
  | .ok (b, f, L) => ∃ gs vs, e = .returned (.tuple #[.agg #[.string ⟨b.toArray⟩, .int .i64 f], gs, .int .i64 0, .int .i64 0]) ∧ SS X w.heap.size gs vs L
theorem parse_scanErr (t : ByteArray) (w : World) (er : Int) (ln col : Nat) (hR : scan t.data.toList = .error (er, ln, col)) : Calls Tryd.prog 5 #[.string t] w (ParsePost w (.error (er, ln))) := by
  have hmf : ∀ (fn : Fn) (first cap : Array Value) (w : World), (Instr.makeFunc fn first cap).run Tryd.prog w = .ok (.func fn first cap) w := fun _ _ _ _ => rfl
  have hsc := fun W => scan_any t W
  have h0 := scan_err hR
  have y1 : (er != 0) = true := by simpa using h0
  rw [hR] at hsc
  clear hR h0
  go_enter_defers Tryd.func5, Tryd.ntmps5
  go_wp2_with fail
  go_at_call 7
  refine (hsc _).mono ?_
  intro e X hpost
  obtain ⟨rfl, hc⟩ := hpost
  obtain ⟨m, rfl⟩ := muts_ex hc
  have HC := Lib.hid hc
  clear hc hsc
  go_wp2_with fail
  refine wp_normal ?_
  go_region_law (fail)
  all_goals
    dsimp only [NormP]
    go_wp2_with fail

    simp [bodyPostD, Leaves, settle, results, Tryd.results5, go_sem]
    refine ⟨?_, rfl⟩
    repeat (with_reducible first | exact HC.out | exact Chg.refl _ _ | refine chg_m ?_ _ | refine chg_g ?_ _ | refine chg_alloc ?_ _ | refine chg_drew ?_ | refine chg_drewN ?_ _ | refine chg_set ?_ _ _ _)
end Go.Proofs.YtkamjhhaghkdmaaDoor
namespace Go.Proofs.YtkamjhhaghkdmaaDoor
open Go.RowKit Go.Ear Go.Shelf
set_option maxHeartbeats 4000000
set_option maxRecDepth 100000
set_option linter.unusedSimpArgs false
set_option linter.unusedVariables false
/-- Parse's four results in memory. -/
structure Res (w : World) (B : Nat) (b : ByteArray) (f : Int) (v : Value) (er ln : Int) : Prop where
  r0 : w.heap[B]? = some (.cells #[.string b, .int .i64 f] 23)
  r1 : w.heap[B + 1]? = some (.cells #[v] 24)
  r2 : w.heap[B + 1 + 1]? = some (.cells #[.int .i64 er] 25)
  r3 : w.heap[B + 1 + 1 + 1]? = some (.cells #[.int .i64 ln] 3)
def refuse (er no : Int) (r : Bool) : PanicEntry := { v := .iface 38 (.agg #[.int .i64 er, .int .i64 no]), recovered := r }
def FRes (B : Nat) : Nat → Prop := fun k => B ≤ k ∧ k ≤ B + 1 + 1 + 1
theorem Res.cells {w : World} {B : Nat} {b : ByteArray} {f : Int} {v : Value} {er ln : Int} (h : Res w B b f v er ln) : w.cell? ⟨B, 0, none⟩ = some (.string b) ∧ w.cell? ⟨B, 1, none⟩ = some (.int .i64 f) ∧ w.cell? ⟨B + 1, 0, none⟩ = some v ∧ w.cell? ⟨B + 1 + 1, 0, none⟩ = some (.int .i64 er) ∧ w.cell? ⟨B + 1 + 1 + 1, 0, none⟩ = some (.int .i64 ln) :=
  ⟨(cell_of_row _ _ _ _ _ _ h.r0).trans rfl, (cell_of_row _ _ _ _ _ _ h.r0).trans rfl, (cell_of_row _ _ _ _ _ _ h.r1).trans rfl, (cell_of_row _ _ _ _ _ _ h.r2).trans rfl, (cell_of_row _ _ _ _ _ _ h.r3).trans rfl⟩
theorem res_set {w : World} {B : Nat} {b : ByteArray} {f : Int} {v : Value} {er0 ln0 : Int} (h : Res w B b f v er0 ln0) (b' : ByteArray) (f' : Int) (v' : Value) (er ln : Int) :
    Res (((((w.setCell ⟨B, 0, none⟩ (.string b')).setCell ⟨B, 1, none⟩ (.int .i64 f')).setCell ⟨B + 1, 0, none⟩ v').setCell ⟨B + 1 + 1, 0, none⟩ (.int .i64 er)).setCell ⟨B + 1 + 1 + 1, 0, none⟩ (.int .i64 ln)) B b' f' v' er ln ∧
    Chg (FRes B) w (((((w.setCell ⟨B, 0, none⟩ (.string b')).setCell ⟨B, 1, none⟩ (.int .i64 f')).setCell ⟨B + 1, 0, none⟩ v').setCell ⟨B + 1 + 1, 0, none⟩ (.int .i64 er)).setCell ⟨B + 1 + 1 + 1, 0, none⟩ (.int .i64 ln)) := by
  refine ⟨⟨?_, ?_, ?_, ?_⟩, ?_⟩
  · rw [heap_set_far _ _ _ _ (by omega), heap_set_far _ _ _ _ (by omega), heap_set_far _ _ _ _ (by omega)]
    exact (heap_setCell_same _ _ 1 _ _ _ (heap_setCell_same _ _ 0 _ _ _ h.r0)).trans rfl
  · rw [heap_set_far _ _ _ _ (by omega), heap_set_far _ _ _ _ (by omega)]
    exact (heap_setCell_same _ _ 0 _ _ _ ((heap_set_far _ _ _ _ (by omega)).trans ((heap_set_far _ _ _ _ (by omega)).trans h.r1))).trans rfl
  · rw [heap_set_far _ _ _ _ (by omega)]
    exact (heap_setCell_same _ _ 0 _ _ _ ((heap_set_far _ _ _ _ (by omega)).trans ((heap_set_far _ _ _ _ (by omega)).trans ((heap_set_far _ _ _ _ (by omega)).trans h.r2)))).trans rfl
  · exact (heap_setCell_same _ _ 0 _ _ _ ((heap_set_far _ _ _ _ (by omega)).trans ((heap_set_far _ _ _ _ (by omega)).trans ((heap_set_far _ _ _ _ (by omega)).trans ((heap_set_far _ _ _ _ (by omega)).trans h.r3))))).trans rfl
  · have one : ∀ (X : World) (k j : Nat) (u : Value), FRes B k → Chg (FRes B) X (X.setCell ⟨k, j, none⟩ u) := fun X k j u hk => (chg_set_b (b := k) (Chg.refl _ _)).mono fun i _ e => by subst e; exact hk
    exact ((((one _ _ _ _ ⟨by omega, by omega⟩).trans (one _ _ _ _ ⟨by omega, by omega⟩) (fun _ _ h => h)).trans (one _ _ _ _ ⟨by omega, by omega⟩) (fun _ _ h => h)).trans (one _ _ _ _ ⟨by omega, by omega⟩) (fun _ _ h => h)).trans (one _ _ _ _ ⟨by omega, by omega⟩) (fun _ _ h => h)
theorem Res.grow {w w' : World} {B : Nat} {b : ByteArray} {f : Int} {v : Value} {er ln : Int} (h : Res w B b f v er ln) (hc : Chg Noth w w') : Res w' B b f v er ln := ⟨blk_grow hc h.r0, blk_grow hc h.r1, blk_grow hc h.r2, blk_grow hc h.r3⟩
theorem caught (B : Nat) (er no : Int) (b : ByteArray) (f : Int) (A : Option Addr) (n c : Nat) (er0 ln0 : Int) (w : World) (h : Res w B b f (.slice A n c) er0 ln0) :
    CallsD Tryd.prog 9 #[.pointer (some ⟨B, 0, none⟩), .pointer (some ⟨B + 1, 0, none⟩), .pointer (some ⟨B + 1 + 1, 0, none⟩), .pointer (some ⟨B + 1 + 1 + 1, 0, none⟩)] (.panicking [refuse er no false]) w fun e u' w' =>
      e = .returned (.tuple #[]) ∧ u' = .panicking [refuse er no true] ∧ Chg (FRes B) w w' ∧ Res w' B ⟨#[]⟩ 0 (.slice none 0 0) er no := by
  have hrep : Array.replicate 18 undef = #[undef, undef, undef, undef, undef, undef, undef, undef, undef, undef, undef, undef, undef, undef, undef, undef, undef, undef] := rfl
  have hta : ∀ W, (Instr.typeAssert (.iface 38 (.agg #[.int .i64 er, .int .i64 no])) 20 38 true).run Tryd.prog W = .ok (.tuple #[.agg #[.int .i64 er, .int .i64 no], .bool true]) W := fun _ => rfl
  obtain ⟨c0, c1, c2, c3, c4⟩ := h.cells
  have j0 : Old B w := ⟨(Array.getElem?_eq_some_iff.1 h.r0).1⟩
  have j1 : Old (B + 1) w := ⟨(Array.getElem?_eq_some_iff.1 h.r1).1⟩
  have j2 : Old (B + 1 + 1) w := ⟨(Array.getElem?_eq_some_iff.1 h.r2).1⟩
  have j3 : Old (B + 1 + 1 + 1) w := ⟨(Array.getElem?_eq_some_iff.1 h.r3).1⟩
  have k0 : HasCell w B 0 := ⟨by rw [c0]; rfl⟩
  have k1 : HasCell w B 1 := ⟨by rw [c1]; rfl⟩
  have k2 : HasCell w (B + 1) 0 := ⟨by rw [c2]; rfl⟩
  have k3 : HasCell w (B + 1 + 1) 0 := ⟨by rw [c3]; rfl⟩
  have k4 : HasCell w (B + 1 + 1 + 1) 0 := ⟨by rw [c4]; rfl⟩
  have z0 : ∀ i, w.frozen? ⟨B, i, none⟩ = false := fun i => frozen_of_row _ _ _ _ _ h.r0
  have z1 : ∀ i, w.frozen? ⟨B + 1, i, none⟩ = false := fun i => frozen_of_row _ _ _ _ _ h.r1
  have z2 : ∀ i, w.frozen? ⟨B + 1 + 1, i, none⟩ = false := fun i => frozen_of_row _ _ _ _ _ h.r2
  have z3 : ∀ i, w.frozen? ⟨B + 1 + 1 + 1, i, none⟩ = false := fun i => frozen_of_row _ _ _ _ _ h.r3
  have H := Lib.hid h
  clear h
  refine callsD_of_wpS Tryd.func9 rfl fun c₀ cs hu => ?_
  unfold refuse at hu
  apply wpS_seq
  apply wpS_region
  simp [wpOpsS, go_sem, recoverD, hu, Tryd.ntmps9, Exit.thenS, hrep]
  refine wpS_of_wp ?_
  go_wp2_with fail
  refine wp_normal ?_
  go_region_law (fail)
  all_goals
    dsimp only [NormP]
    go_wp2_with fail
    have hr := res_set H.out ⟨#[]⟩ 0 (.slice none 0 0) er no
    exact ⟨rfl, _, rfl, .tuple #[], by simp [results, Tryd.results9], rfl, rfl, chg_drew (chg_alloc hr.2 _), hr.1.grow (chg_drew (chg_alloc (Chg.refl _ _) _))⟩
theorem caught_idle (B : Nat) (w : World) (h : B + 1 + 1 + 1 < w.heap.size) :
    CallsD Tryd.prog 9 #[.pointer (some ⟨B, 0, none⟩), .pointer (some ⟨B + 1, 0, none⟩), .pointer (some ⟨B + 1 + 1, 0, none⟩), .pointer (some ⟨B + 1 + 1 + 1, 0, none⟩)] .returning w fun e u' w' => e = .returned (.tuple #[]) ∧ u' = .returning ∧ Chg Noth w w' := by
  have hrep : Array.replicate 18 undef = #[undef, undef, undef, undef, undef, undef, undef, undef, undef, undef, undef, undef, undef, undef, undef, undef, undef, undef] := rfl
  have hta : ∀ W, (Instr.typeAssert .nilIface 20 38 true).run Tryd.prog W = .ok (.tuple #[.agg #[.int .i64 0, .int .i64 0], .bool false]) W := fun _ => by kernel_rfl
  have hnn : ∀ W, (binOp .neq 20 .nilIface .nilIface).run Tryd.prog W = .ok (.bool false) W := fun _ => by kernel_rfl
  refine callsD_of_wpS Tryd.func9 rfl fun c₀ cs hu => ?_
  apply wpS_seq
  apply wpS_region
  simp [wpOpsS, go_sem, recoverD, hu, Tryd.ntmps9, Exit.thenS, hrep]
  refine wpS_of_wp ?_
  go_wp2_with fail
  exact ⟨rfl, .returning, by rw [← hu], .tuple #[], by simp [results, Tryd.results9], rfl, rfl, (by repeat (with_reducible first | exact Chg.refl _ _ | refine chg_m ?_ _ | refine chg_g ?_ _ | refine chg_alloc ?_ _ | refine chg_drew ?_ | refine chg_drewN ?_ _ | refine chg_set ?_ _ _ _))⟩
end Go.Proofs.YtkamjhhaghkdmaaDoor
