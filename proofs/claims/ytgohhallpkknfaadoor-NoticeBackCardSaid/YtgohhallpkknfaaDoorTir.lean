/- notice.Read. -/
import Derived.Test.YtgohhallpkknfaaDoorTfr
namespace Go.Ear
/-- The tag behind the mark of kind j + 1, if it is that mark. -/
def kf (j : Nat) (l : List UInt8) : Option Nat := match l with
  | [] => none
  | m :: r => if m = (if j = 0 then 33 else 63) then num r else none
theorem rdM_kf (l : List UInt8) : rdM l = match kf 0 l with
    | some t => some (1, t)
    | none => (kf 1 l).map fun t => (2, t) := by
  cases l with
  | nil => rfl
  | cons m r =>
    simp only [rdM, kf]
    by_cases h : m = 33
    · subst h
      simp
      cases num r <;> simp
    · simp [h]
      by_cases h2 : m = 63
      · subst h2; simp
      · simp [h2]
end Go.Ear
namespace Go.Proofs.YtgohhallpkknfaaDoor
open Go.RowKit Go.Ear Go.Proofs.YtgohhallpkknfaaDoorW.PrintWords Go.Proofs.YtgohhallpkknfaaDoor.PNoticeReads
set_option maxHeartbeats 4000000
set_option maxRecDepth 100000
set_option linter.unusedSimpArgs false
set_option linter.unusedVariables false
theorem mkB_kind (j : Nat) (h : j < 2) : mkB ((j : Int) + 1) = [if j = 0 then 33 else 63] := by
  rcases (show j = 0 ∨ j = 1 by omega) with rfl | rfl <;> rfl
/-- What a round of Read needs of the text behind the sign. -/
theorem kf_some {j : Nat} {l : List UInt8} {t : Nat} (h : kf j l = some t) : ∃ r, l = (if j = 0 then 33 else 63) :: r ∧ t ≤ 1048576 ∧ r = Lib.decDigits t := by
  cases l with
  | nil => simp [kf] at h
  | cons m r =>
    by_cases hm : m = (if j = 0 then 33 else 63)
    · simp only [kf] at h
      rw [if_pos hm] at h
      have := num_some h
      exact ⟨r, by rw [hm], this.1, this.2⟩
    · simp only [kf] at h
      rw [if_neg hm] at h
      cases h
theorem fnd_lt : ∀ (l : List Int) (r i : Int), r ∈ l → fnd l r i < i + l.length
  | [], r, i, h => by simp at h
  | a :: l, r, i, h => by
    unfold fnd
    by_cases e : a = r
    · rw [if_pos e]
      simp
      omega
    · rw [if_neg e]
      have := fnd_lt l r (i + 1) (by simpa [Ne.symm e] using h)
      simp
      omega
theorem nread_any (v : Value) (l : List Int) (s : ByteArray) (w : World) (hR : RosterIs w v l) (hp : Pow Tryd.prog w) (hE : Errs Tryd.prog w) :
    Calls Tryd.prog 11 #[v, .string s] w (Gr (.tuple #[nt (rdS l s).1 (rdS l s).2.1 (rdS l s).2.2.1, .int .i64 (rdS l s).2.2.2]) w) := by
  obtain ⟨t, A, c, m, rfl⟩ := RosterIs.shape hR
  have hid := fun W hW => id_any t A c m l (rn s 0) W hW
  have hlen : l.length ≤ 100 := by
    obtain ⟨_, _, _, _, _, _, h, _⟩ := hR
    exact h
  have HR := Lib.hid hR
  have HP := Lib.hid hp
  have HE := Lib.hid hE
  clear hR hp hE
  by_cases h1 : 65536 < s.size
  · have hv : rdS l s = (0, 0, 0, 2) := by unfold rdS; rw [if_pos h1]
    have x1 : decide ((65536 : Int) < (s.size : Int)) = true := decide_eq_true (by omega)
    rw [hv]
    clear hv hid
    generalize l.length = n at *
    go_enter Tryd.func11, Tryd.ntmps11
    go_wp2
    refine bodyPost_ret (v := .tuple #[.agg #[.int .i64 0, .int .i64 0, .int .i64 0], .int .i64 2]) (by simp [results, Tryd.results11, go_sem, *]) rfl ?_
    exact gr_mk rfl (by repeat (with_reducible first | exact Chg.refl _ _ | assumption | refine chg_m ?_ _ | refine chg_g ?_ _ | refine chg_alloc ?_ _ | refine chg_drew ?_ | refine chg_drewN ?_ _ | refine chg_set ?_ _ _ _))
  have x1 : decide ((65536 : Int) < (s.size : Int)) = false := decide_eq_false (by omega)
  by_cases h2 : s.size = 0
  · have hv : rdS l s = (0, 0, 0, 80) := by unfold rdS; rw [if_neg h1, if_pos h2]
    have x2 : s.toList.isEmpty = true := by
      rw [← decide_eq_emptyBytes]
      exact decide_eq_true (by apply ByteArray.ext; exact Array.eq_empty_of_size_eq_zero h2)
    rw [hv]
    clear hv hid
    generalize l.length = n at *
    go_enter Tryd.func11, Tryd.ntmps11
    go_wp2
    refine bodyPost_ret (v := .tuple #[.agg #[.int .i64 0, .int .i64 0, .int .i64 0], .int .i64 80]) (by simp [results, Tryd.results11, go_sem, *]) rfl ?_
    exact gr_mk rfl (by repeat (with_reducible first | exact Chg.refl _ _ | assumption | refine chg_m ?_ _ | refine chg_g ?_ _ | refine chg_alloc ?_ _ | refine chg_drew ?_ | refine chg_drewN ?_ _ | refine chg_set ?_ _ _ _))
  have x2 : s.toList.isEmpty = false := by
    rw [← decide_eq_emptyBytes]
    exact decide_eq_false (fun h => h2 (by rw [h]; rfl))
  have hfi := fun W => first_any s W (by omega)
  have hw1 := wd_pos s 0
  have hwl := wd_le s 0 (by omega)
  have hrd : rdS l s = if lo s 0 = true ∨ rn s 0 ∉ l then ((0 : Int), (0 : Int), (0 : Int), (80 : Int)) else match rdM (s.data.toList.drop (wd s 0)) with
      | none => (0, 0, 0, 80)
      | some (k, t) => (fnd l (rn s 0) 0, (t : Int), k, (0 : Int)) := by unfold rdS; rw [if_neg h1, if_neg h2]; rfl
  by_cases h3 : rn s 0 ∈ l
  case neg =>
    rw [if_pos (.inr h3)] at hrd
    rw [hrd]
    simp only [if_neg h3] at hid
    clear hrd
    generalize rn s 0 = r at *
    generalize wd s 0 = wd' at *
    generalize lo s 0 = lo' at *
    generalize l.length = n at *
    go_enter Tryd.func11, Tryd.ntmps11
    go_wp2_with fail
    refine (hfi _).mono ?_
    rintro e w' ⟨rfl, g, rfl⟩
    go_wp2_with fail
    refine (hid _ (HR.out.grow (by repeat (with_reducible first | exact Chg.refl _ _ | assumption | refine chg_m ?_ _ | refine chg_g ?_ _ | refine chg_alloc ?_ _ | refine chg_drew ?_ | refine chg_drewN ?_ _ | refine chg_set ?_ _ _ _)))).mono ?_
    rintro e w' ⟨rfl, g2, rfl⟩
    go_wp2
    refine bodyPost_ret (v := .tuple #[.agg #[.int .i64 0, .int .i64 0, .int .i64 0], .int .i64 80]) (by simp [results, Tryd.results11, go_sem, *]) rfl ?_
    exact gr_mk rfl (by repeat (with_reducible first | exact Chg.refl _ _ | assumption | refine chg_m ?_ _ | refine chg_g ?_ _ | refine chg_alloc ?_ _ | refine chg_drew ?_ | refine chg_drewN ?_ _ | refine chg_set ?_ _ _ _))
  simp only [if_pos h3] at hid
  by_cases h4 : lo s 0 = true
  · rw [if_pos (.inl h4)] at hrd
    rw [hrd]
    rw [h4] at hfi
    clear hrd
    generalize rn s 0 = r at *
    generalize wd s 0 = wd' at *
    generalize fnd l r 0 = i at *
    generalize l.length = n at *
    go_enter Tryd.func11, Tryd.ntmps11
    go_wp2_with fail
    refine (hfi _).mono ?_
    rintro e w' ⟨rfl, g, rfl⟩
    go_wp2_with fail
    refine (hid _ (HR.out.grow (by repeat (with_reducible first | exact Chg.refl _ _ | assumption | refine chg_m ?_ _ | refine chg_g ?_ _ | refine chg_alloc ?_ _ | refine chg_drew ?_ | refine chg_drewN ?_ _ | refine chg_set ?_ _ _ _)))).mono ?_
    rintro e w' ⟨rfl, g2, rfl⟩
    go_wp2
    refine bodyPost_ret (v := .tuple #[.agg #[.int .i64 0, .int .i64 0, .int .i64 0], .int .i64 80]) (by simp [results, Tryd.results11, go_sem, *]) rfl ?_
    exact gr_mk rfl (by repeat (with_reducible first | exact Chg.refl _ _ | assumption | refine chg_m ?_ _ | refine chg_g ?_ _ | refine chg_alloc ?_ _ | refine chg_drew ?_ | refine chg_drewN ?_ _ | refine chg_set ?_ _ _ _))
  have h4 : lo s 0 = false := by simpa using h4
  rw [if_neg (fun h => h.elim (fun h => by rw [h4] at h; cases h) (fun h => h h3)), rdM_kf] at hrd
  rw [h4] at hfi
  have hi0 : 0 ≤ fnd l (rn s 0) 0 := by
    have := fnd_neg l (rn s 0) 0 (by omega)
    have : ¬ fnd l (rn s 0) 0 < 0 := fun h => this.1 h h3
    omega
  generalize hr : rn s 0 = r at *
  generalize hwd : wd s 0 = wd' at *
  generalize hfn : fnd l r 0 = i at *
  have HX := Lib.hid (And.intro hr (And.intro hwd hfn))
  have hin : i < (l.length : Int) := by rw [← hfn]; have := fnd_lt l r 0 h3; omega
  have HRD := Lib.hid hrd
  clear hrd h3 h4 hr hwd hfn
  have hvn := validN_any
  have hsz := size_any t A l.length c (.map m)
  generalize hn : l.length = n at *
  have HN := Lib.hid hn
  have HIN := Lib.hid hin
  clear hn hin
  go_enter Tryd.func11, Tryd.ntmps11
  go_wp2_with fail
  refine (hfi _).mono ?_
  rintro e W1 ⟨rfl, g, e1⟩
  have c1 : Chg Noth w W1 := by rw [e1]; exact (by repeat (with_reducible first | exact Chg.refl _ _ | assumption | refine chg_m ?_ _ | refine chg_g ?_ _ | refine chg_alloc ?_ _ | refine chg_drew ?_ | refine chg_drewN ?_ _ | refine chg_set ?_ _ _ _))
  have b0 : W1.heap[w.heap.size]? = some (.cells #[.string t, .slice A n c, .map m] 27 (0, 0)) := by
    rw [e1]
    refine (g.h.block _ (by simp; omega) (fun e => e)).trans ?_
    exact (Below.heap_alloc _ _ _ (by simp)).trans (heap_alloc_new _ _)
  have b1 : W1.heap[w.heap.size + 1]? = some (.cells #[.int .i64 0, .int .i64 0, .int .i64 0] 23 (0, 0)) := by
    rw [e1]
    refine (g.h.block _ (by simp) (fun e => e)).trans ?_
    have := heap_alloc_new (w.alloc (.cells #[.string t, .slice A n c, .map m] 27)) (.cells #[.int .i64 0, .int .i64 0, .int .i64 0] 23)
    simpa using this
  clear e1 g hfi
  obtain ⟨C, hC⟩ : ∃ C, W1.heap.size = C := ⟨_, rfl⟩
  have hC1 : w.heap.size + 1 < C := by rw [← hC]; exact (Array.getElem?_eq_some_iff.1 b1).1
  have B0 := Lib.hid b0
  have B1 := Lib.hid b1
  have C1 := Lib.hid c1
  have q0 := cell_of_row _ _ 0 _ _ _ b0
  have q1 := cell_of_row _ _ 1 _ _ _ b0
  have q2 := cell_of_row _ _ 2 _ _ _ b0
  simp only [show (#[.string t, .slice A n c, .map m] : Array Value)[0]? = some (.string t) from rfl, show (#[.string t, .slice A n c, .map m] : Array Value)[1]? = some (.slice A n c) from rfl, show (#[.string t, .slice A n c, .map m] : Array Value)[2]? = some (.map m) from rfl] at q0 q1 q2
  have jq : Old w.heap.size W1 := ⟨by omega⟩
  clear b0 b1 c1
  go_wp2_with fail
  have b6 := heap_alloc_new W1 (.cells #[.int .i32 r, .int .i64 0, .int .i64 wd', .bool false] 61)
  refine (hid _ (HR.out.grow (by repeat (with_reducible first | exact Chg.refl _ _ | exact C1.out | assumption | refine chg_m ?_ _ | refine chg_g ?_ _ | refine chg_alloc ?_ _ | refine chg_drew ?_ | refine chg_drewN ?_ _ | refine chg_set ?_ _ _ _)))).mono ?_
  rintro e W2 ⟨rfl, g2, e2⟩
  have c12 : Chg Noth W1 W2 := by rw [e2]; exact chg_g (chg_alloc (Chg.refl _ _) _) g2
  have b6 : W2.heap[C]? = some (.cells #[.int .i32 r, .int .i64 0, .int .i64 wd', .bool false] 61 (0, 0)) := by
    rw [e2, ← hC]
    exact (g2.h.block _ (by simp) (fun e => e)).trans b6
  have b0 := (c12.block _ (by omega) (fun e => e)).trans B0.out
  have b1 := (c12.block _ (by omega) (fun e => e)).trans B1.out
  have cw : Chg Noth w W2 := C1.out.trans c12 (fun _ _ e => e)
  have p3 : W2.cell? ⟨C, 3, none⟩ = some (.bool false) := (cell_of_row _ _ _ _ _ _ b6).trans rfl
  have BB := Lib.hid (And.intro b0 (And.intro b1 (And.intro b6 cw)))
  clear e2 g2 c12 b0 b1 b6 cw hid q0 q1 q2 jq
  subst hC
  go_wp2
  go_loopw [40] (fun j' wr => ∃ j : Nat, j ≤ 2 ∧ j' = .int .i64 j ∧ Chg Noth w wr ∧ wr.heap[w.heap.size]? = some (.cells #[.string t, .slice A n c, .map m] 27 (0, 0)) ∧ wr.heap[w.heap.size + 1]? = some (.cells #[.int .i64 0, .int .i64 0, .int .i64 0] 23 (0, 0)) ∧
    wr.heap[W1.heap.size]? = some (.cells #[.int .i32 r, .int .i64 0, .int .i64 wd', .bool false] 61 (0, 0)) ∧ (1 ≤ j → kf 0 (s.data.toList.drop wd') = none) ∧ (2 ≤ j → kf 1 (s.data.toList.drop wd') = none)) (fun j' _ => 2 - (intOf j').toNat)
  case atStart => exact ⟨0, by omega, rfl, BB.out.2.2.2, BB.out.1, BB.out.2.1, BB.out.2.2.1, fun h => by omega, fun h => by omega⟩
  case round =>
    obtain ⟨j, hj, rfl, hc, b0, b1, b6, k0, k1⟩ := hrel
    have sz := (Array.getElem?_eq_some_iff.1 b6).1
    have j0 : Old w.heap.size wr := ⟨by omega⟩
    have j1 : Old (w.heap.size + 1) wr := ⟨by omega⟩
    have j6 : Old W1.heap.size wr := ⟨sz⟩
    have q0 : wr.cell? ⟨w.heap.size, 0, none⟩ = some (.string t) := (cell_of_row _ _ _ _ _ _ b0).trans rfl
    have q1 : wr.cell? ⟨w.heap.size, 1, none⟩ = some (.slice A n c) := (cell_of_row _ _ _ _ _ _ b0).trans rfl
    have q2 : wr.cell? ⟨w.heap.size, 2, none⟩ = some (.map m) := (cell_of_row _ _ _ _ _ _ b0).trans rfl
    have p0 : wr.cell? ⟨w.heap.size + 1, 0, none⟩ = some (.int .i64 0) := (cell_of_row _ _ _ _ _ _ b1).trans rfl
    have p1 : wr.cell? ⟨w.heap.size + 1, 1, none⟩ = some (.int .i64 0) := (cell_of_row _ _ _ _ _ _ b1).trans rfl
    have p2 : wr.cell? ⟨w.heap.size + 1, 2, none⟩ = some (.int .i64 0) := (cell_of_row _ _ _ _ _ _ b1).trans rfl
    have kp0 : HasCell wr (w.heap.size + 1) 0 := ⟨by rw [p0]; rfl⟩
    have kp1 : HasCell wr (w.heap.size + 1) 1 := ⟨by rw [p1]; rfl⟩
    have kp2 : HasCell wr (w.heap.size + 1) 2 := ⟨by rw [p2]; rfl⟩
    have fp : ∀ i, wr.frozen? ⟨w.heap.size + 1, i, none⟩ = false := fun i => frozen_of_row _ _ _ _ _ b1
    have o2 : wr.cell? ⟨W1.heap.size, 2, none⟩ = some (.int .i64 wd') := (cell_of_row _ _ _ _ _ _ b6).trans rfl
    have BW := Lib.hid (And.intro b0 (And.intro b1 (And.intro b6 hc)))
    clear b0 b1 b6 hc p3
    by_cases hlt : j < 2
    · have hsz0 : (wd' : Int) ≤ (s.size : Int) := by have := HX.out.2.1; omega
      rcases (show j = 0 ∨ j = 1 by omega) with rfl | rfl
      · have hmk := markN_any 1
        have hix : ∀ W, (Instr.index 65 (.agg #[.int .i64 1, .int .i64 2]) (.int .i64 0)).run Tryd.prog W = .ok (.int .i64 1) W := fun W => by kernel_rfl
        have hMB : mkB 1 = [33] := rfl
        rw [hMB] at hmk
        obtain ⟨R, hR⟩ : ∃ R, s.extract wd' s.size = R := ⟨_, rfl⟩
        have hRl : R.data.toList = s.data.toList.drop wd' := by rw [← hR]; exact extract_list s wd'
        have hRs : R.size ≤ 65536 := by
          rw [← hR, ByteArray.size_extract]
          omega
        have HRL := Lib.hid hRl
        rw [← hRl] at HRD
        obtain ⟨D, is, hcp, hDs, hDi⟩ : ∃ D is, (∀ W, Calls Tryd.prog 28 #[.string R, .string ⟨[33].toArray⟩] W (Gr (.tuple #[.string D, .bool is]) W)) ∧ D.size ≤ 65536 ∧ ((is = false ∧ kf 0 R.data.toList = none) ∨ (is = true ∧ R.data.toList = 33 :: D.data.toList)) := by
          refine ⟨⟨(Lib.trimPrefix R.data.toList [33]).toArray⟩, Lib.hasPrefix R.data.toList [33], fun W => ?_, ?_, ?_⟩
          · refine (Tryd.strings_CutPrefix R ⟨[33].toArray⟩ W).mono ?_
            rintro e w' ⟨rfl, rfl⟩
            exact gr_same rfl
          · have hl : R.data.toList.length = R.size := by rw [Array.length_toList]; rfl
            have : (Lib.trimPrefix R.data.toList [33]).length ≤ R.data.toList.length := by
              unfold Lib.trimPrefix
              split
              · rw [List.length_drop]; omega
              · omega
            simp only [ByteArray.size, List.size_toArray]
            omega
          · generalize R.data.toList = L
            cases L with
            | nil => left; exact ⟨rfl, rfl⟩
            | cons a L =>
              by_cases ha : a = 33
              · right
                subst ha
                exact ⟨by simp [Lib.hasPrefix], by simp [Lib.trimPrefix, Lib.hasPrefix]⟩
              · left
                refine ⟨by simp [Lib.hasPrefix, List.isPrefixOf, Ne.symm ha], ?_⟩
                simp only [kf]
                rw [if_neg (by simpa using ha)]
        have hcp3 : ∀ g : Grows wr, Calls Tryd.prog 28 #[.string R, .string ⟨[33].toArray⟩] g.w (Gr (.tuple #[.string D, .bool is]) g.w) := fun g => hcp _
        have HDI := Lib.hid hDi
        have HDS := Lib.hid hDs
        clear hcp hDi hRl
        have hE' := Lib.hid (HE.out.grow (BW.out.2.2.2))
        go_wp2_with fail
        refine wp_region_grows (by kernel_rfl) (by kernel_rfl) ?_
        repeat (go_big_quiet_step ((first | (go_at_call 21; exact grows_of (hmk _)) | (go_at_call 28; exact grows_of (hcp3 _)))))
        refine wpQuiet_nil ?_
        rintro _ ⟨g1, rfl⟩
        go_wp2_with fail
        refine (atoi_any D _ (by have := HDS.out; omega) (hE'.out.grow (by repeat (with_reducible first | exact Chg.refl _ _ | assumption | refine chg_m ?_ _ | refine chg_g ?_ _ | refine chg_alloc ?_ _ | refine chg_drew ?_ | refine chg_drewN ?_ _ | refine chg_set ?_ _ _ _)))).mono ?_
        rintro e W5 ⟨v, er, rfl, c5, her⟩
        have c5' : Chg Noth wr W5 := Chg.trans (by repeat (with_reducible first | exact Chg.refl _ _ | assumption | refine chg_m ?_ _ | refine chg_g ?_ _ | refine chg_alloc ?_ _ | refine chg_drew ?_ | refine chg_drewN ?_ _ | refine chg_set ?_ _ _ _)) c5 (fun _ _ e => e)
        have d0 := (c5'.block _ (Array.getElem?_eq_some_iff.1 BW.out.1).1 (fun e => e)).trans BW.out.1
        have d1 := (c5'.block _ (Array.getElem?_eq_some_iff.1 BW.out.2.1).1 (fun e => e)).trans BW.out.2.1
        have d6 := (c5'.block _ (Array.getElem?_eq_some_iff.1 BW.out.2.2.1).1 (fun e => e)).trans BW.out.2.2.1
        have cW5 : Chg Noth w W5 := BW.out.2.2.2.trans c5' (fun _ _ e => e)
        have sz5 := c5'.size
        clear j0 j1 j6 q0 q1 q2 p0 p1 p2 kp0 kp1 kp2 fp o2 hmk hcp3 hE' c5
        have j0 : Old w.heap.size W5 := ⟨by omega⟩
        have j1 : Old (w.heap.size + 1) W5 := ⟨by omega⟩
        have q0 : W5.cell? ⟨w.heap.size, 0, none⟩ = some (.string t) := (cell_of_row _ _ _ _ _ _ d0).trans rfl
        have q1 : W5.cell? ⟨w.heap.size, 1, none⟩ = some (.slice A n c) := (cell_of_row _ _ _ _ _ _ d0).trans rfl
        have q2 : W5.cell? ⟨w.heap.size, 2, none⟩ = some (.map m) := (cell_of_row _ _ _ _ _ _ d0).trans rfl
        have p0 : W5.cell? ⟨w.heap.size + 1, 0, none⟩ = some (.int .i64 0) := (cell_of_row _ _ _ _ _ _ d1).trans rfl
        have p1 : W5.cell? ⟨w.heap.size + 1, 1, none⟩ = some (.int .i64 0) := (cell_of_row _ _ _ _ _ _ d1).trans rfl
        have p2 : W5.cell? ⟨w.heap.size + 1, 2, none⟩ = some (.int .i64 0) := (cell_of_row _ _ _ _ _ _ d1).trans rfl
        have kp0 : HasCell W5 (w.heap.size + 1) 0 := ⟨by rw [p0]; rfl⟩
        have kp1 : HasCell W5 (w.heap.size + 1) 1 := ⟨by rw [p1]; rfl⟩
        have kp2 : HasCell W5 (w.heap.size + 1) 2 := ⟨by rw [p2]; rfl⟩
        have fp : ∀ i, W5.frozen? ⟨w.heap.size + 1, i, none⟩ = false := fun i => frozen_of_row _ _ _ _ _ d1
        have BV := Lib.hid (And.intro d0 (And.intro d1 (And.intro d6 cW5)))
        clear d0 d1 d6 cW5 c5' BW sz5 hR
        rcases HDI.out with ⟨rfl, hk⟩ | ⟨rfl, hk⟩
        · have HK := Lib.hid hk
          clear hk her HDI
          go_wp2_with fail
          refine wp_region_grows (by kernel_rfl) (by kernel_rfl) ?_
          repeat (go_big_quiet_step ((first | (go_at_call 19; exact grows_of (hsz _)) | (go_at_call 18; exact grows_of (hvn _)))))
          refine wpQuiet_nil ?_
          rintro _ ⟨g7, rfl⟩
          go_wp2
          exact ⟨⟨1, by omega, by simp, (by repeat (with_reducible first | exact Chg.refl _ _ | exact BV.out.2.2.2 | assumption | refine chg_m ?_ _ | refine chg_g ?_ _ | refine chg_alloc ?_ _ | refine chg_drew ?_ | refine chg_drewN ?_ _ | refine chg_set ?_ _ _ _)), ((show Chg Noth W5 _ from (by repeat (with_reducible first | exact Chg.refl _ _ | assumption | refine chg_m ?_ _ | refine chg_g ?_ _ | refine chg_alloc ?_ _ | refine chg_drew ?_ | refine chg_drewN ?_ _ | refine chg_set ?_ _ _ _))).block _ (Array.getElem?_eq_some_iff.1 BV.out.1).1 (fun e => e)).trans BV.out.1, ((show Chg Noth W5 _ from (by repeat (with_reducible first | exact Chg.refl _ _ | assumption | refine chg_m ?_ _ | refine chg_g ?_ _ | refine chg_alloc ?_ _ | refine chg_drew ?_ | refine chg_drewN ?_ _ | refine chg_set ?_ _ _ _))).block _ (Array.getElem?_eq_some_iff.1 BV.out.2.1).1 (fun e => e)).trans BV.out.2.1, ((show Chg Noth W5 _ from (by repeat (with_reducible first | exact Chg.refl _ _ | assumption | refine chg_m ?_ _ | refine chg_g ?_ _ | refine chg_alloc ?_ _ | refine chg_drew ?_ | refine chg_drewN ?_ _ | refine chg_set ?_ _ _ _))).block _ (Array.getElem?_eq_some_iff.1 BV.out.2.2.1).1 (fun e => e)).trans BV.out.2.2.1, fun _ => (by rw [← HRL.out]; exact HK.out), fun h => by omega⟩, by simp [intOf]⟩
        · have hkf : kf 0 R.data.toList = num D.data.toList := by rw [hk]; simp [kf]
          rcases her with ⟨rfl, ha⟩ | ⟨T, b, rfl, ha⟩
          · by_cases hv : vld n i v 1 = true
            · have hv' := of_decide_eq_true hv
              obtain ⟨v, rfl⟩ := Int.eq_ofNat_of_zero_le hv'.2.2.2.2.1
              have hvn := hvn n i v 1
              rw [hv] at hvn
              have hit3 : ∀ g : Grows (W5.alloc (.cells #[.int .i64 i, .int .i64 v, .int .i64 1] 23)), Calls Tryd.prog 22 #[.int .i64 v] g.w (Gr (.string ⟨(Lib.decDigits v).toArray⟩) g.w) := fun g => itoa_any v _ (by omega) (by omega) (HP.out.grow (by repeat (with_reducible first | exact Chg.refl _ _ | exact BV.out.2.2.2 | assumption | refine chg_m ?_ _ | refine chg_g ?_ _ | refine chg_alloc ?_ _ | refine chg_drew ?_ | refine chg_drewN ?_ _ | refine chg_set ?_ _ _ _)))
              by_cases heq : D.data.toList = Lib.decDigits v
              · have hN : kf 0 R.data.toList = some v := by rw [hkf, heq, num_dec v (by omega)]
                have hv2 : rdS l s = (i, (v : Int), 1, 0) := by
                  rw [HRD.out, hN]
                  try rfl
                have HV := Lib.hid hv2
                have y1 : ((⟨(Lib.decDigits v).toArray⟩ : ByteArray).toList == D.toList) = true := by
                  rw [Lib.toList_data, Lib.toList_data, heq]
                  simp
                generalize (⟨(Lib.decDigits v).toArray⟩ : ByteArray) = DD at *
                clear heq hN hv2 hkf hk ha hv hv' HDI
                go_wp2_with fail
                refine wp_region_grows (by kernel_rfl) (by kernel_rfl) ?_
                repeat (go_big_quiet_step ((first | (go_at_call 19; exact grows_of (hsz _)) | (go_at_call 18; exact grows_of (hvn _)) | (go_at_call 22; exact grows_of (hit3 _)))))
                refine wpQuiet_nil ?_
                rintro _ ⟨g7, rfl⟩
                go_wp2
                rw [HV.out]
                refine bodyPost_ret (v := .tuple #[.agg #[.int .i64 i, .int .i64 v, .int .i64 1], .int .i64 0]) (by simp [results, Tryd.results11, go_sem, *]) rfl ?_
                exact gr_mk rfl (by repeat (with_reducible first | exact Chg.refl _ _ | exact BV.out.2.2.2 | assumption | refine chg_m ?_ _ | refine chg_g ?_ _ | refine chg_alloc ?_ _ | refine chg_drew ?_ | refine chg_drewN ?_ _ | refine chg_set ?_ _ _ _))
              · have hN : kf 0 R.data.toList = none := by
                  cases hx : num D.data.toList with
                  | none => rw [hkf, hx]
                  | some t =>
                    have ht := num_some hx
                    rw [ht.2, atoi_dec t (by omega)] at ha
                    injection ha with ha
                    exact absurd (by rw [ht.2]; congr 1; omega) heq
                have HK := Lib.hid hN
                have y1 : ((⟨(Lib.decDigits v).toArray⟩ : ByteArray).toList == D.toList) = false := by
                  rw [Lib.toList_data, Lib.toList_data, beq_eq_false_iff_ne]
                  intro h
                  exact heq h.symm
                generalize (⟨(Lib.decDigits v).toArray⟩ : ByteArray) = DD at *
                clear heq hN hkf hk ha hv hv' HDI
                go_wp2_with fail
                refine wp_region_grows (by kernel_rfl) (by kernel_rfl) ?_
                repeat (go_big_quiet_step ((first | (go_at_call 19; exact grows_of (hsz _)) | (go_at_call 18; exact grows_of (hvn _)) | (go_at_call 22; exact grows_of (hit3 _)))))
                refine wpQuiet_nil ?_
                rintro _ ⟨g7, rfl⟩
                go_wp2
                exact ⟨⟨1, by omega, by simp, (by repeat (with_reducible first | exact Chg.refl _ _ | exact BV.out.2.2.2 | assumption | refine chg_m ?_ _ | refine chg_g ?_ _ | refine chg_alloc ?_ _ | refine chg_drew ?_ | refine chg_drewN ?_ _ | refine chg_set ?_ _ _ _)), ((show Chg Noth W5 _ from (by repeat (with_reducible first | exact Chg.refl _ _ | assumption | refine chg_m ?_ _ | refine chg_g ?_ _ | refine chg_alloc ?_ _ | refine chg_drew ?_ | refine chg_drewN ?_ _ | refine chg_set ?_ _ _ _))).block _ (Array.getElem?_eq_some_iff.1 BV.out.1).1 (fun e => e)).trans BV.out.1, ((show Chg Noth W5 _ from (by repeat (with_reducible first | exact Chg.refl _ _ | assumption | refine chg_m ?_ _ | refine chg_g ?_ _ | refine chg_alloc ?_ _ | refine chg_drew ?_ | refine chg_drewN ?_ _ | refine chg_set ?_ _ _ _))).block _ (Array.getElem?_eq_some_iff.1 BV.out.2.1).1 (fun e => e)).trans BV.out.2.1, ((show Chg Noth W5 _ from (by repeat (with_reducible first | exact Chg.refl _ _ | assumption | refine chg_m ?_ _ | refine chg_g ?_ _ | refine chg_alloc ?_ _ | refine chg_drew ?_ | refine chg_drewN ?_ _ | refine chg_set ?_ _ _ _))).block _ (Array.getElem?_eq_some_iff.1 BV.out.2.2.1).1 (fun e => e)).trans BV.out.2.2.1, fun _ => (by rw [← HRL.out]; exact HK.out), fun h => by omega⟩, by simp [intOf]⟩
            · have hvf : vld n i v 1 = false := by simpa using hv
              have hvn := hvn n i v 1
              rw [hvf] at hvn
              have hN : kf 0 R.data.toList = none := by
                cases hx : num D.data.toList with
                | none => rw [hkf, hx]
                | some t =>
                  have ht := num_some hx
                  rw [ht.2, atoi_dec t (by omega)] at ha
                  injection ha with ha
                  exact absurd (decide_eq_true ⟨by have := HIN.out; omega, by omega, hi0, HIN.out, by omega, by omega, by omega⟩) hv
              have HK := Lib.hid hN
              clear hN hkf hk ha hv hvf HDI
              go_wp2_with fail
              refine wp_region_grows (by kernel_rfl) (by kernel_rfl) ?_
              repeat (go_big_quiet_step ((first | (go_at_call 19; exact grows_of (hsz _)) | (go_at_call 18; exact grows_of (hvn _)))))
              refine wpQuiet_nil ?_
              rintro _ ⟨g7, rfl⟩
              go_wp2
              exact ⟨⟨1, by omega, by simp, (by repeat (with_reducible first | exact Chg.refl _ _ | exact BV.out.2.2.2 | assumption | refine chg_m ?_ _ | refine chg_g ?_ _ | refine chg_alloc ?_ _ | refine chg_drew ?_ | refine chg_drewN ?_ _ | refine chg_set ?_ _ _ _)), ((show Chg Noth W5 _ from (by repeat (with_reducible first | exact Chg.refl _ _ | assumption | refine chg_m ?_ _ | refine chg_g ?_ _ | refine chg_alloc ?_ _ | refine chg_drew ?_ | refine chg_drewN ?_ _ | refine chg_set ?_ _ _ _))).block _ (Array.getElem?_eq_some_iff.1 BV.out.1).1 (fun e => e)).trans BV.out.1, ((show Chg Noth W5 _ from (by repeat (with_reducible first | exact Chg.refl _ _ | assumption | refine chg_m ?_ _ | refine chg_g ?_ _ | refine chg_alloc ?_ _ | refine chg_drew ?_ | refine chg_drewN ?_ _ | refine chg_set ?_ _ _ _))).block _ (Array.getElem?_eq_some_iff.1 BV.out.2.1).1 (fun e => e)).trans BV.out.2.1, ((show Chg Noth W5 _ from (by repeat (with_reducible first | exact Chg.refl _ _ | assumption | refine chg_m ?_ _ | refine chg_g ?_ _ | refine chg_alloc ?_ _ | refine chg_drew ?_ | refine chg_drewN ?_ _ | refine chg_set ?_ _ _ _))).block _ (Array.getElem?_eq_some_iff.1 BV.out.2.2.1).1 (fun e => e)).trans BV.out.2.2.1, fun _ => (by rw [← HRL.out]; exact HK.out), fun h => by omega⟩, by simp [intOf]⟩
          · have hN : kf 0 R.data.toList = none := by
              cases hx : num D.data.toList with
              | none => rw [hkf, hx]
              | some t =>
                have ht := num_some hx
                exact absurd (by rw [ht.2]; exact atoi_dec t (by omega)) (ha t)
            have HK := Lib.hid hN
            clear hN hkf hk ha HDI
            go_wp2_with fail
            refine wp_region_grows (by kernel_rfl) (by kernel_rfl) ?_
            repeat (go_big_quiet_step ((first | (go_at_call 19; exact grows_of (hsz _)) | (go_at_call 18; exact grows_of (hvn _)))))
            refine wpQuiet_nil ?_
            rintro _ ⟨g7, rfl⟩
            go_wp2
            exact ⟨⟨1, by omega, by simp, (by repeat (with_reducible first | exact Chg.refl _ _ | exact BV.out.2.2.2 | assumption | refine chg_m ?_ _ | refine chg_g ?_ _ | refine chg_alloc ?_ _ | refine chg_drew ?_ | refine chg_drewN ?_ _ | refine chg_set ?_ _ _ _)), ((show Chg Noth W5 _ from (by repeat (with_reducible first | exact Chg.refl _ _ | assumption | refine chg_m ?_ _ | refine chg_g ?_ _ | refine chg_alloc ?_ _ | refine chg_drew ?_ | refine chg_drewN ?_ _ | refine chg_set ?_ _ _ _))).block _ (Array.getElem?_eq_some_iff.1 BV.out.1).1 (fun e => e)).trans BV.out.1, ((show Chg Noth W5 _ from (by repeat (with_reducible first | exact Chg.refl _ _ | assumption | refine chg_m ?_ _ | refine chg_g ?_ _ | refine chg_alloc ?_ _ | refine chg_drew ?_ | refine chg_drewN ?_ _ | refine chg_set ?_ _ _ _))).block _ (Array.getElem?_eq_some_iff.1 BV.out.2.1).1 (fun e => e)).trans BV.out.2.1, ((show Chg Noth W5 _ from (by repeat (with_reducible first | exact Chg.refl _ _ | assumption | refine chg_m ?_ _ | refine chg_g ?_ _ | refine chg_alloc ?_ _ | refine chg_drew ?_ | refine chg_drewN ?_ _ | refine chg_set ?_ _ _ _))).block _ (Array.getElem?_eq_some_iff.1 BV.out.2.2.1).1 (fun e => e)).trans BV.out.2.2.1, fun _ => (by rw [← HRL.out]; exact HK.out), fun h => by omega⟩, by simp [intOf]⟩
      · have hmk := markN_any 2
        have hix : ∀ W, (Instr.index 65 (.agg #[.int .i64 1, .int .i64 2]) (.int .i64 1)).run Tryd.prog W = .ok (.int .i64 2) W := fun W => by kernel_rfl
        have hMB : mkB 2 = [63] := rfl
        rw [hMB] at hmk
        obtain ⟨R, hR⟩ : ∃ R, s.extract wd' s.size = R := ⟨_, rfl⟩
        have hRl : R.data.toList = s.data.toList.drop wd' := by rw [← hR]; exact extract_list s wd'
        have hRs : R.size ≤ 65536 := by
          rw [← hR, ByteArray.size_extract]
          omega
        have HRL := Lib.hid hRl
        rw [← hRl] at k0 HRD
        obtain ⟨D, is, hcp, hDs, hDi⟩ : ∃ D is, (∀ W, Calls Tryd.prog 28 #[.string R, .string ⟨[63].toArray⟩] W (Gr (.tuple #[.string D, .bool is]) W)) ∧ D.size ≤ 65536 ∧ ((is = false ∧ kf 1 R.data.toList = none) ∨ (is = true ∧ R.data.toList = 63 :: D.data.toList)) := by
          refine ⟨⟨(Lib.trimPrefix R.data.toList [63]).toArray⟩, Lib.hasPrefix R.data.toList [63], fun W => ?_, ?_, ?_⟩
          · refine (Tryd.strings_CutPrefix R ⟨[63].toArray⟩ W).mono ?_
            rintro e w' ⟨rfl, rfl⟩
            exact gr_same rfl
          · have hl : R.data.toList.length = R.size := by rw [Array.length_toList]; rfl
            have : (Lib.trimPrefix R.data.toList [63]).length ≤ R.data.toList.length := by
              unfold Lib.trimPrefix
              split
              · rw [List.length_drop]; omega
              · omega
            simp only [ByteArray.size, List.size_toArray]
            omega
          · generalize R.data.toList = L
            cases L with
            | nil => left; exact ⟨rfl, rfl⟩
            | cons a L =>
              by_cases ha : a = 63
              · right
                subst ha
                exact ⟨by simp [Lib.hasPrefix], by simp [Lib.trimPrefix, Lib.hasPrefix]⟩
              · left
                refine ⟨by simp [Lib.hasPrefix, List.isPrefixOf, Ne.symm ha], ?_⟩
                simp only [kf]
                rw [if_neg (by simpa using ha)]
        have hcp3 : ∀ g : Grows wr, Calls Tryd.prog 28 #[.string R, .string ⟨[63].toArray⟩] g.w (Gr (.tuple #[.string D, .bool is]) g.w) := fun g => hcp _
        have HDI := Lib.hid hDi
        have HDS := Lib.hid hDs
        clear hcp hDi hRl
        have hE' := Lib.hid (HE.out.grow (BW.out.2.2.2))
        go_wp2_with fail
        refine wp_region_grows (by kernel_rfl) (by kernel_rfl) ?_
        repeat (go_big_quiet_step ((first | (go_at_call 21; exact grows_of (hmk _)) | (go_at_call 28; exact grows_of (hcp3 _)))))
        refine wpQuiet_nil ?_
        rintro _ ⟨g1, rfl⟩
        go_wp2_with fail
        refine (atoi_any D _ (by have := HDS.out; omega) (hE'.out.grow (by repeat (with_reducible first | exact Chg.refl _ _ | assumption | refine chg_m ?_ _ | refine chg_g ?_ _ | refine chg_alloc ?_ _ | refine chg_drew ?_ | refine chg_drewN ?_ _ | refine chg_set ?_ _ _ _)))).mono ?_
        rintro e W5 ⟨v, er, rfl, c5, her⟩
        have c5' : Chg Noth wr W5 := Chg.trans (by repeat (with_reducible first | exact Chg.refl _ _ | assumption | refine chg_m ?_ _ | refine chg_g ?_ _ | refine chg_alloc ?_ _ | refine chg_drew ?_ | refine chg_drewN ?_ _ | refine chg_set ?_ _ _ _)) c5 (fun _ _ e => e)
        have d0 := (c5'.block _ (Array.getElem?_eq_some_iff.1 BW.out.1).1 (fun e => e)).trans BW.out.1
        have d1 := (c5'.block _ (Array.getElem?_eq_some_iff.1 BW.out.2.1).1 (fun e => e)).trans BW.out.2.1
        have d6 := (c5'.block _ (Array.getElem?_eq_some_iff.1 BW.out.2.2.1).1 (fun e => e)).trans BW.out.2.2.1
        have cW5 : Chg Noth w W5 := BW.out.2.2.2.trans c5' (fun _ _ e => e)
        have sz5 := c5'.size
        clear j0 j1 j6 q0 q1 q2 p0 p1 p2 kp0 kp1 kp2 fp o2 hmk hcp3 hE' c5
        have j0 : Old w.heap.size W5 := ⟨by omega⟩
        have j1 : Old (w.heap.size + 1) W5 := ⟨by omega⟩
        have q0 : W5.cell? ⟨w.heap.size, 0, none⟩ = some (.string t) := (cell_of_row _ _ _ _ _ _ d0).trans rfl
        have q1 : W5.cell? ⟨w.heap.size, 1, none⟩ = some (.slice A n c) := (cell_of_row _ _ _ _ _ _ d0).trans rfl
        have q2 : W5.cell? ⟨w.heap.size, 2, none⟩ = some (.map m) := (cell_of_row _ _ _ _ _ _ d0).trans rfl
        have p0 : W5.cell? ⟨w.heap.size + 1, 0, none⟩ = some (.int .i64 0) := (cell_of_row _ _ _ _ _ _ d1).trans rfl
        have p1 : W5.cell? ⟨w.heap.size + 1, 1, none⟩ = some (.int .i64 0) := (cell_of_row _ _ _ _ _ _ d1).trans rfl
        have p2 : W5.cell? ⟨w.heap.size + 1, 2, none⟩ = some (.int .i64 0) := (cell_of_row _ _ _ _ _ _ d1).trans rfl
        have kp0 : HasCell W5 (w.heap.size + 1) 0 := ⟨by rw [p0]; rfl⟩
        have kp1 : HasCell W5 (w.heap.size + 1) 1 := ⟨by rw [p1]; rfl⟩
        have kp2 : HasCell W5 (w.heap.size + 1) 2 := ⟨by rw [p2]; rfl⟩
        have fp : ∀ i, W5.frozen? ⟨w.heap.size + 1, i, none⟩ = false := fun i => frozen_of_row _ _ _ _ _ d1
        have BV := Lib.hid (And.intro d0 (And.intro d1 (And.intro d6 cW5)))
        clear d0 d1 d6 cW5 c5' BW sz5 hR
        rcases HDI.out with ⟨rfl, hk⟩ | ⟨rfl, hk⟩
        · have HK := Lib.hid hk
          clear hk her HDI
          go_wp2_with fail
          refine wp_region_grows (by kernel_rfl) (by kernel_rfl) ?_
          repeat (go_big_quiet_step ((first | (go_at_call 19; exact grows_of (hsz _)) | (go_at_call 18; exact grows_of (hvn _)))))
          refine wpQuiet_nil ?_
          rintro _ ⟨g7, rfl⟩
          go_wp2
          exact ⟨⟨2, by omega, by simp, (by repeat (with_reducible first | exact Chg.refl _ _ | exact BV.out.2.2.2 | assumption | refine chg_m ?_ _ | refine chg_g ?_ _ | refine chg_alloc ?_ _ | refine chg_drew ?_ | refine chg_drewN ?_ _ | refine chg_set ?_ _ _ _)), ((show Chg Noth W5 _ from (by repeat (with_reducible first | exact Chg.refl _ _ | assumption | refine chg_m ?_ _ | refine chg_g ?_ _ | refine chg_alloc ?_ _ | refine chg_drew ?_ | refine chg_drewN ?_ _ | refine chg_set ?_ _ _ _))).block _ (Array.getElem?_eq_some_iff.1 BV.out.1).1 (fun e => e)).trans BV.out.1, ((show Chg Noth W5 _ from (by repeat (with_reducible first | exact Chg.refl _ _ | assumption | refine chg_m ?_ _ | refine chg_g ?_ _ | refine chg_alloc ?_ _ | refine chg_drew ?_ | refine chg_drewN ?_ _ | refine chg_set ?_ _ _ _))).block _ (Array.getElem?_eq_some_iff.1 BV.out.2.1).1 (fun e => e)).trans BV.out.2.1, ((show Chg Noth W5 _ from (by repeat (with_reducible first | exact Chg.refl _ _ | assumption | refine chg_m ?_ _ | refine chg_g ?_ _ | refine chg_alloc ?_ _ | refine chg_drew ?_ | refine chg_drewN ?_ _ | refine chg_set ?_ _ _ _))).block _ (Array.getElem?_eq_some_iff.1 BV.out.2.2.1).1 (fun e => e)).trans BV.out.2.2.1, fun _ => (by rw [← HRL.out]; exact k0 (by omega)), fun _ => (by rw [← HRL.out]; exact HK.out)⟩, by simp [intOf]⟩
        · have hkf : kf 1 R.data.toList = num D.data.toList := by rw [hk]; simp [kf]
          rcases her with ⟨rfl, ha⟩ | ⟨T, b, rfl, ha⟩
          · by_cases hv : vld n i v 2 = true
            · have hv' := of_decide_eq_true hv
              obtain ⟨v, rfl⟩ := Int.eq_ofNat_of_zero_le hv'.2.2.2.2.1
              have hvn := hvn n i v 2
              rw [hv] at hvn
              have hit3 : ∀ g : Grows (W5.alloc (.cells #[.int .i64 i, .int .i64 v, .int .i64 2] 23)), Calls Tryd.prog 22 #[.int .i64 v] g.w (Gr (.string ⟨(Lib.decDigits v).toArray⟩) g.w) := fun g => itoa_any v _ (by omega) (by omega) (HP.out.grow (by repeat (with_reducible first | exact Chg.refl _ _ | exact BV.out.2.2.2 | assumption | refine chg_m ?_ _ | refine chg_g ?_ _ | refine chg_alloc ?_ _ | refine chg_drew ?_ | refine chg_drewN ?_ _ | refine chg_set ?_ _ _ _)))
              by_cases heq : D.data.toList = Lib.decDigits v
              · have hN : kf 1 R.data.toList = some v := by rw [hkf, heq, num_dec v (by omega)]
                have hv2 : rdS l s = (i, (v : Int), 2, 0) := by
                  rw [HRD.out, k0 (by omega), hN]
                  try rfl
                have HV := Lib.hid hv2
                have y1 : ((⟨(Lib.decDigits v).toArray⟩ : ByteArray).toList == D.toList) = true := by
                  rw [Lib.toList_data, Lib.toList_data, heq]
                  simp
                generalize (⟨(Lib.decDigits v).toArray⟩ : ByteArray) = DD at *
                clear heq hN hv2 hkf hk ha hv hv' HDI
                go_wp2_with fail
                refine wp_region_grows (by kernel_rfl) (by kernel_rfl) ?_
                repeat (go_big_quiet_step ((first | (go_at_call 19; exact grows_of (hsz _)) | (go_at_call 18; exact grows_of (hvn _)) | (go_at_call 22; exact grows_of (hit3 _)))))
                refine wpQuiet_nil ?_
                rintro _ ⟨g7, rfl⟩
                go_wp2
                rw [HV.out]
                refine bodyPost_ret (v := .tuple #[.agg #[.int .i64 i, .int .i64 v, .int .i64 2], .int .i64 0]) (by simp [results, Tryd.results11, go_sem, *]) rfl ?_
                exact gr_mk rfl (by repeat (with_reducible first | exact Chg.refl _ _ | exact BV.out.2.2.2 | assumption | refine chg_m ?_ _ | refine chg_g ?_ _ | refine chg_alloc ?_ _ | refine chg_drew ?_ | refine chg_drewN ?_ _ | refine chg_set ?_ _ _ _))
              · have hN : kf 1 R.data.toList = none := by
                  cases hx : num D.data.toList with
                  | none => rw [hkf, hx]
                  | some t =>
                    have ht := num_some hx
                    rw [ht.2, atoi_dec t (by omega)] at ha
                    injection ha with ha
                    exact absurd (by rw [ht.2]; congr 1; omega) heq
                have HK := Lib.hid hN
                have y1 : ((⟨(Lib.decDigits v).toArray⟩ : ByteArray).toList == D.toList) = false := by
                  rw [Lib.toList_data, Lib.toList_data, beq_eq_false_iff_ne]
                  intro h
                  exact heq h.symm
                generalize (⟨(Lib.decDigits v).toArray⟩ : ByteArray) = DD at *
                clear heq hN hkf hk ha hv hv' HDI
                go_wp2_with fail
                refine wp_region_grows (by kernel_rfl) (by kernel_rfl) ?_
                repeat (go_big_quiet_step ((first | (go_at_call 19; exact grows_of (hsz _)) | (go_at_call 18; exact grows_of (hvn _)) | (go_at_call 22; exact grows_of (hit3 _)))))
                refine wpQuiet_nil ?_
                rintro _ ⟨g7, rfl⟩
                go_wp2
                exact ⟨⟨2, by omega, by simp, (by repeat (with_reducible first | exact Chg.refl _ _ | exact BV.out.2.2.2 | assumption | refine chg_m ?_ _ | refine chg_g ?_ _ | refine chg_alloc ?_ _ | refine chg_drew ?_ | refine chg_drewN ?_ _ | refine chg_set ?_ _ _ _)), ((show Chg Noth W5 _ from (by repeat (with_reducible first | exact Chg.refl _ _ | assumption | refine chg_m ?_ _ | refine chg_g ?_ _ | refine chg_alloc ?_ _ | refine chg_drew ?_ | refine chg_drewN ?_ _ | refine chg_set ?_ _ _ _))).block _ (Array.getElem?_eq_some_iff.1 BV.out.1).1 (fun e => e)).trans BV.out.1, ((show Chg Noth W5 _ from (by repeat (with_reducible first | exact Chg.refl _ _ | assumption | refine chg_m ?_ _ | refine chg_g ?_ _ | refine chg_alloc ?_ _ | refine chg_drew ?_ | refine chg_drewN ?_ _ | refine chg_set ?_ _ _ _))).block _ (Array.getElem?_eq_some_iff.1 BV.out.2.1).1 (fun e => e)).trans BV.out.2.1, ((show Chg Noth W5 _ from (by repeat (with_reducible first | exact Chg.refl _ _ | assumption | refine chg_m ?_ _ | refine chg_g ?_ _ | refine chg_alloc ?_ _ | refine chg_drew ?_ | refine chg_drewN ?_ _ | refine chg_set ?_ _ _ _))).block _ (Array.getElem?_eq_some_iff.1 BV.out.2.2.1).1 (fun e => e)).trans BV.out.2.2.1, fun _ => (by rw [← HRL.out]; exact k0 (by omega)), fun _ => (by rw [← HRL.out]; exact HK.out)⟩, by simp [intOf]⟩
            · have hvf : vld n i v 2 = false := by simpa using hv
              have hvn := hvn n i v 2
              rw [hvf] at hvn
              have hN : kf 1 R.data.toList = none := by
                cases hx : num D.data.toList with
                | none => rw [hkf, hx]
                | some t =>
                  have ht := num_some hx
                  rw [ht.2, atoi_dec t (by omega)] at ha
                  injection ha with ha
                  exact absurd (decide_eq_true ⟨by have := HIN.out; omega, by omega, hi0, HIN.out, by omega, by omega, by omega⟩) hv
              have HK := Lib.hid hN
              clear hN hkf hk ha hv hvf HDI
              go_wp2_with fail
              refine wp_region_grows (by kernel_rfl) (by kernel_rfl) ?_
              repeat (go_big_quiet_step ((first | (go_at_call 19; exact grows_of (hsz _)) | (go_at_call 18; exact grows_of (hvn _)))))
              refine wpQuiet_nil ?_
              rintro _ ⟨g7, rfl⟩
              go_wp2
              exact ⟨⟨2, by omega, by simp, (by repeat (with_reducible first | exact Chg.refl _ _ | exact BV.out.2.2.2 | assumption | refine chg_m ?_ _ | refine chg_g ?_ _ | refine chg_alloc ?_ _ | refine chg_drew ?_ | refine chg_drewN ?_ _ | refine chg_set ?_ _ _ _)), ((show Chg Noth W5 _ from (by repeat (with_reducible first | exact Chg.refl _ _ | assumption | refine chg_m ?_ _ | refine chg_g ?_ _ | refine chg_alloc ?_ _ | refine chg_drew ?_ | refine chg_drewN ?_ _ | refine chg_set ?_ _ _ _))).block _ (Array.getElem?_eq_some_iff.1 BV.out.1).1 (fun e => e)).trans BV.out.1, ((show Chg Noth W5 _ from (by repeat (with_reducible first | exact Chg.refl _ _ | assumption | refine chg_m ?_ _ | refine chg_g ?_ _ | refine chg_alloc ?_ _ | refine chg_drew ?_ | refine chg_drewN ?_ _ | refine chg_set ?_ _ _ _))).block _ (Array.getElem?_eq_some_iff.1 BV.out.2.1).1 (fun e => e)).trans BV.out.2.1, ((show Chg Noth W5 _ from (by repeat (with_reducible first | exact Chg.refl _ _ | assumption | refine chg_m ?_ _ | refine chg_g ?_ _ | refine chg_alloc ?_ _ | refine chg_drew ?_ | refine chg_drewN ?_ _ | refine chg_set ?_ _ _ _))).block _ (Array.getElem?_eq_some_iff.1 BV.out.2.2.1).1 (fun e => e)).trans BV.out.2.2.1, fun _ => (by rw [← HRL.out]; exact k0 (by omega)), fun _ => (by rw [← HRL.out]; exact HK.out)⟩, by simp [intOf]⟩
          · have hN : kf 1 R.data.toList = none := by
              cases hx : num D.data.toList with
              | none => rw [hkf, hx]
              | some t =>
                have ht := num_some hx
                exact absurd (by rw [ht.2]; exact atoi_dec t (by omega)) (ha t)
            have HK := Lib.hid hN
            clear hN hkf hk ha HDI
            go_wp2_with fail
            refine wp_region_grows (by kernel_rfl) (by kernel_rfl) ?_
            repeat (go_big_quiet_step ((first | (go_at_call 19; exact grows_of (hsz _)) | (go_at_call 18; exact grows_of (hvn _)))))
            refine wpQuiet_nil ?_
            rintro _ ⟨g7, rfl⟩
            go_wp2
            exact ⟨⟨2, by omega, by simp, (by repeat (with_reducible first | exact Chg.refl _ _ | exact BV.out.2.2.2 | assumption | refine chg_m ?_ _ | refine chg_g ?_ _ | refine chg_alloc ?_ _ | refine chg_drew ?_ | refine chg_drewN ?_ _ | refine chg_set ?_ _ _ _)), ((show Chg Noth W5 _ from (by repeat (with_reducible first | exact Chg.refl _ _ | assumption | refine chg_m ?_ _ | refine chg_g ?_ _ | refine chg_alloc ?_ _ | refine chg_drew ?_ | refine chg_drewN ?_ _ | refine chg_set ?_ _ _ _))).block _ (Array.getElem?_eq_some_iff.1 BV.out.1).1 (fun e => e)).trans BV.out.1, ((show Chg Noth W5 _ from (by repeat (with_reducible first | exact Chg.refl _ _ | assumption | refine chg_m ?_ _ | refine chg_g ?_ _ | refine chg_alloc ?_ _ | refine chg_drew ?_ | refine chg_drewN ?_ _ | refine chg_set ?_ _ _ _))).block _ (Array.getElem?_eq_some_iff.1 BV.out.2.1).1 (fun e => e)).trans BV.out.2.1, ((show Chg Noth W5 _ from (by repeat (with_reducible first | exact Chg.refl _ _ | assumption | refine chg_m ?_ _ | refine chg_g ?_ _ | refine chg_alloc ?_ _ | refine chg_drew ?_ | refine chg_drewN ?_ _ | refine chg_set ?_ _ _ _))).block _ (Array.getElem?_eq_some_iff.1 BV.out.2.2.1).1 (fun e => e)).trans BV.out.2.2.1, fun _ => (by rw [← HRL.out]; exact k0 (by omega)), fun _ => (by rw [← HRL.out]; exact HK.out)⟩, by simp [intOf]⟩
    · obtain rfl : j = 2 := by omega
      have hv : rdS l s = (0, 0, 0, 80) := by
        rw [HRD.out, k0 (by omega), k1 (by omega)]
        rfl
      have HV := Lib.hid hv
      clear hv k0 k1
      go_wp2
      rw [HV.out]
      refine bodyPost_ret (v := .tuple #[.agg #[.int .i64 0, .int .i64 0, .int .i64 0], .int .i64 80]) (by simp [results, Tryd.results11, go_sem, *]) rfl ?_
      exact gr_mk rfl (by repeat (with_reducible first | exact Chg.refl _ _ | exact BW.out.2.2.2 | assumption | refine chg_m ?_ _ | refine chg_g ?_ _ | refine chg_alloc ?_ _ | refine chg_drew ?_ | refine chg_drewN ?_ _ | refine chg_set ?_ _ _ _))
end Go.Proofs.YtgohhallpkknfaaDoor
