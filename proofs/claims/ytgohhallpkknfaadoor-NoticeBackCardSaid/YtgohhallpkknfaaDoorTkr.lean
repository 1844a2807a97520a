/- NoticeBack: what is printed is read as it was; what is read is printed as it was. -/
import Derived.Test.YtgohhallpkknfaaDoorTh
import Derived.Test.YtgohhallpkknfaaDoorTir
import Derived.Test.YtgohhallpkknfaaDoorTpar
namespace Go.Ear
set_option linter.unusedSimpArgs false
set_option linter.unusedVariables false
set_option maxRecDepth 100000
theorem rdM_mk (k : Int) (t : Nat) (h : k = 1 ∨ k = 2) (ht : t ≤ 1048576) : rdM (mkB k ++ Lib.decDigits t) = some (k, t) := by
  rcases h with rfl | rfl
  · have : mkB 1 ++ Lib.decDigits t = 33 :: Lib.decDigits t := rfl
    rw [this]
    simp only [rdM]
    rw [if_pos trivial, num_dec t ht]
    rfl
  · have : mkB 2 ++ Lib.decDigits t = 63 :: Lib.decDigits t := rfl
    rw [this]
    simp only [rdM]
    rw [if_neg (by decide), if_pos trivial, num_dec t ht]
    rfl
theorem rdM_some {l : List UInt8} {k : Int} {t : Nat} (h : rdM l = some (k, t)) : (k = 1 ∨ k = 2) ∧ t ≤ 1048576 ∧ l = mkB k ++ Lib.decDigits t := by
  cases l with
  | nil => cases h
  | cons m rest =>
    simp only [rdM] at h
    by_cases h1 : m = 33
    · rw [if_pos h1] at h
      cases hn : num rest with
      | none => rw [hn] at h; cases h
      | some x =>
        rw [hn] at h
        simp at h
        obtain ⟨rfl, rfl⟩ := h
        have := num_some hn
        exact ⟨.inl rfl, this.1, by rw [h1, this.2]; rfl⟩
    · rw [if_neg h1] at h
      by_cases h2 : m = 63
      · rw [if_pos h2] at h
        cases hn : num rest with
        | none => rw [hn] at h; cases h
        | some x =>
          rw [hn] at h
          simp at h
          obtain ⟨rfl, rfl⟩ := h
          have := num_some hn
          exact ⟨.inr rfl, this.1, by rw [h2, this.2]; rfl⟩
      · rw [if_neg h2] at h
        cases h
theorem back1 (l : List Int) (o t k : Int) (hl : l.length ≤ 100) (hd : l.Nodup) (hc : ∀ r ∈ l, cls r = 4) (hv : vld l.length o t k = true)
    (he : (Lib.encodeRune (l.getD o.toNat 0)).length ≤ 4) (hdl : (Lib.decDigits t.toNat).length ≤ 20) : rdS l ⟨(ntB l o t k).toArray⟩ = (o, t, k, 0) := by
  have hv' := of_decide_eq_true hv
  obtain ⟨o, rfl⟩ := Int.eq_ofNat_of_zero_le hv'.2.2.1
  obtain ⟨t, rfl⟩ := Int.eq_ofNat_of_zero_le hv'.2.2.2.2.1
  simp only [Int.toNat_natCast] at he hdl
  have hm : l.getD o 0 ∈ l := by
    rw [List.getD_eq_getElem?_getD, List.getElem?_eq_getElem (by omega)]
    exact List.getElem_mem _
  have hcl := cls_valid (hc _ hm)
  have hs : (⟨(ntB l o t k).toArray⟩ : ByteArray).data.toList = Lib.encodeRune (l.getD o 0) ++ (mkB k ++ Lib.decDigits t) := by
    unfold ntB
    simp [List.append_assoc]
  have hsz : (⟨(ntB l o t k).toArray⟩ : ByteArray).size = (Lib.encodeRune (l.getD o 0)).length + (1 + (Lib.decDigits t).length) := by
    have : (⟨(ntB l o t k).toArray⟩ : ByteArray).size = (⟨(ntB l o t k).toArray⟩ : ByteArray).data.toList.length := by rw [Array.length_toList]; rfl
    rw [this, hs, List.length_append, List.length_append]
    congr 2
    unfold mkB
    split <;> rfl
  obtain ⟨e1, e2, e3⟩ := dec_enc (l.getD o 0) hcl.1 hcl.2.1 hcl.2.2 _ _ hs
  generalize (⟨(ntB l o t k).toArray⟩ : ByteArray) = s at *
  unfold rdS
  rw [if_neg (by omega), if_neg (by omega), e1, e2, e3, if_neg (fun h => h.elim (fun h => by cases h) (fun h => h hm)), hs, List.drop_left, rdM_mk k t hv'.2.2.2.2.2.2 (by omega), fnd_at l o 0 hd (by omega)]
  simp
theorem back2 (l : List Int) (s : ByteArray) (hl : l.length ≤ 100) (h : (rdS l s).2.2.2 = 0) : vld l.length (rdS l s).1 (rdS l s).2.1 (rdS l s).2.2.1 = true ∧ (⟨(ntB l (rdS l s).1 (rdS l s).2.1 (rdS l s).2.2.1).toArray⟩ : ByteArray) = s := by
  unfold rdS at *
  by_cases h1 : 65536 < s.size
  · rw [if_pos h1] at h; cases h
  rw [if_neg h1] at h ⊢
  by_cases h2 : s.size = 0
  · rw [if_pos h2] at h; cases h
  rw [if_neg h2] at h ⊢
  by_cases h3 : lo s 0 = true ∨ rn s 0 ∉ l
  · rw [if_pos h3] at h; cases h
  rw [if_neg h3] at h ⊢
  cases hr : rdM (s.data.toList.drop (wd s 0)) with
  | none => rw [hr] at h; cases h
  | some p =>
    obtain ⟨k, t⟩ := p
    obtain ⟨a1, a2, a3⟩ := rdM_some hr
    simp only
    have hm : rn s 0 ∈ l := Classical.byContradiction fun h => h3 (.inr h)
    have hlo : lo s 0 = false := by
      cases hx : lo s 0 with
      | false => rfl
      | true => exact absurd (.inl hx) h3
    have g := fnd_get l (rn s 0) 0 hm
    have g2 := fnd_lt' l (rn s 0) 0 hm
    refine ⟨decide_eq_true ⟨by omega, by omega, g.2, by omega, by omega, by omega, a1⟩, ?_⟩
    have hg : l.getD (fnd l (rn s 0) 0).toNat 0 = rn s 0 := by simpa using g.1
    unfold ntB
    rw [hg, enc_dec s 0 (by omega) hlo, List.drop_zero, Int.toNat_natCast, List.append_assoc, ← a3, List.take_append_drop]
theorem rdS_bad (l : List Int) (s : ByteArray) (h : (rdS l s).2.2.2 ≠ 0) : (rdS l s).1 = 0 ∧ (rdS l s).2.1 = 0 ∧ (rdS l s).2.2.1 = 0 := by
  unfold rdS at *
  repeat' split
  all_goals first | exact ⟨rfl, rfl, rfl⟩ | skip
  all_goals simp_all
end Go.Ear
namespace Go.Proofs.YtgohhallpkknfaaDoor
open Go.RowKit Go.Ear Go.Proofs.YtgohhallpkknfaaDoorW.PrintWords Go.Proofs.YtgohhallpkknfaaDoor.PNoticeReads
set_option maxHeartbeats 4000000
set_option maxRecDepth 100000
set_option linter.unusedSimpArgs false
set_option linter.unusedVariables false
theorem backs_any (s tail : ByteArray) (o t k : Int) (w : World) (hts : tail.size ≤ 140737488355328) (hp : Pow Tryd.prog w) (hE : Errs Tryd.prog w) :
    Calls Tryd.prog 5 #[.string s, nt o t k, .string tail] w (Gr (.bool true) w) := by
  have hal := aliveN_any
  have hl := rosS_len s
  have hnd := rosS_nodup s
  have hle := rosS_letters s
  have h1 := ros_any s
  unfold RosTo at h1
  generalize rosS s = r at *
  obtain ⟨l, at', er⟩ := r
  simp only at h1 hl hnd hle
  have hpr := fun v W => nprint_any v l o t k W
  have HP := Lib.hid hp
  have HE := Lib.hid hE
  clear hp hE
  by_cases hv : vld l.length o t k = true
  · have hv' := of_decide_eq_true hv
    have hB : prB l o t k = ⟨(ntB l o t k).toArray⟩ := by unfold prB; rw [if_pos hv]
    have hE0 : prE l o t k = 0 := by unfold prE; rw [if_pos hv]
    have hb1 := back1 l o t k hl hnd hle hv (enc_len _) (dec_few _ (by omega))
    have hT : (⟨(ntB l o t k).toArray⟩ : ByteArray).size ≤ 100 := by
      have e : (⟨(ntB l o t k).toArray⟩ : ByteArray).size = (ntB l o t k).length := by simp [ByteArray.size]
      rw [e]
      unfold ntB
      have q1 := enc_len (l.getD o.toNat 0)
      have q2 := mkB_len k
      have q3 := dec_few t.toNat (by omega)
      rw [List.length_append, List.length_append]
      omega
    rw [hB, hE0] at hpr
    generalize (⟨(ntB l o t k).toArray⟩ : ByteArray) = T at *
    have hrd1 := fun v W => nread_any v l T W
    rw [hb1] at hrd1
    have hrd2 := fun v W => nread_any v l (T ++ tail) W
    have hbk := back2 l (T ++ tail) hl
    have hbd := rdS_bad l (T ++ tail)
    generalize rdS l (T ++ tail) = D at *
    obtain ⟨o2, t2, k2, E2⟩ := D
    simp only at hrd1 hrd2 hbk hbd
    have y0 : ¬ 9223372036854775807 < T.size + tail.size := by omega
    have HA := Lib.hid (And.intro hbk hbd)
    have hpr2 := fun v W => nprint_any v l o2 t2 k2 W
    have HPR2 := Lib.hid hpr2
    clear hbk hbd hb1 hB hE0 hnd hle hv hv' hpr2
    have main : ∀ (Z : Prop), (Z → True) := fun _ _ => trivial
    go_enter Tryd.func5, Tryd.ntmps5
    go_wp2_with fail
    refine (h1 _).mono ?_
    rintro e W1 ⟨v, rfl, hR1, c1⟩
    obtain ⟨t1, A1, k1, m1, rfl⟩ := RosterIs.shape hR1
    have hx1 := (c1.block w.heap.size (by simp) (fun e => e)).trans (heap_alloc_new w (.cells #[.int .i64 o, .int .i64 t, .int .i64 k] 23))
    have hx0 : w.heap.size < W1.heap.size := (Array.getElem?_eq_some_iff.1 hx1).1
    have x0 : W1.cell? ⟨w.heap.size, 0, none⟩ = some (.int .i64 o) := (cell_of_row _ _ _ _ _ _ hx1).trans rfl
    have x1 : W1.cell? ⟨w.heap.size, 1, none⟩ = some (.int .i64 t) := (cell_of_row _ _ _ _ _ _ hx1).trans rfl
    have x2 : W1.cell? ⟨w.heap.size, 2, none⟩ = some (.int .i64 k) := (cell_of_row _ _ _ _ _ _ hx1).trans rfl
    have j0 : Old w.heap.size W1 := ⟨hx0⟩
    have c1w : Chg Noth w W1 := Chg.trans (by repeat (with_reducible first | exact Chg.refl _ _ | refine chg_m ?_ _ | refine chg_g ?_ _ | refine chg_alloc ?_ _ | refine chg_drew ?_ | refine chg_drewN ?_ _ | refine chg_set ?_ _ _ _)) c1 (fun _ _ e => e)
    have HR1 := Lib.hid hR1
    have CW := Lib.hid c1w
    have HPw := Lib.hid (HP.out.grow c1w)
    have HEw := Lib.hid (HE.out.grow c1w)
    clear hR1 c1 c1w hx1
    go_wp2_with fail
    refine (hpr _ _ (HR1.out.grow (by repeat (with_reducible first | exact Chg.refl _ _ | refine chg_m ?_ _ | refine chg_g ?_ _ | refine chg_alloc ?_ _ | refine chg_drew ?_ | refine chg_drewN ?_ _ | refine chg_set ?_ _ _ _))) (HPw.out.grow (by repeat (with_reducible first | exact Chg.refl _ _ | refine chg_m ?_ _ | refine chg_g ?_ _ | refine chg_alloc ?_ _ | refine chg_drew ?_ | refine chg_drewN ?_ _ | refine chg_set ?_ _ _ _)))).mono ?_
    rintro e w' ⟨rfl, g3, rfl⟩
    go_wp2_with fail
    refine (hrd1 _ _ (HR1.out.grow (by repeat (with_reducible first | exact Chg.refl _ _ | refine chg_m ?_ _ | refine chg_g ?_ _ | refine chg_alloc ?_ _ | refine chg_drew ?_ | refine chg_drewN ?_ _ | refine chg_set ?_ _ _ _))) (HPw.out.grow (by repeat (with_reducible first | exact Chg.refl _ _ | refine chg_m ?_ _ | refine chg_g ?_ _ | refine chg_alloc ?_ _ | refine chg_drew ?_ | refine chg_drewN ?_ _ | refine chg_set ?_ _ _ _))) (HEw.out.grow (by repeat (with_reducible first | exact Chg.refl _ _ | refine chg_m ?_ _ | refine chg_g ?_ _ | refine chg_alloc ?_ _ | refine chg_drew ?_ | refine chg_drewN ?_ _ | refine chg_set ?_ _ _ _)))).mono ?_
    rintro e w' ⟨rfl, g4, rfl⟩
    go_wp2_with fail
    refine (hrd2 _ _ (HR1.out.grow (by repeat (with_reducible first | exact Chg.refl _ _ | refine chg_m ?_ _ | refine chg_g ?_ _ | refine chg_alloc ?_ _ | refine chg_drew ?_ | refine chg_drewN ?_ _ | refine chg_set ?_ _ _ _))) (HPw.out.grow (by repeat (with_reducible first | exact Chg.refl _ _ | refine chg_m ?_ _ | refine chg_g ?_ _ | refine chg_alloc ?_ _ | refine chg_drew ?_ | refine chg_drewN ?_ _ | refine chg_set ?_ _ _ _))) (HEw.out.grow (by repeat (with_reducible first | exact Chg.refl _ _ | refine chg_m ?_ _ | refine chg_g ?_ _ | refine chg_alloc ?_ _ | refine chg_drew ?_ | refine chg_drewN ?_ _ | refine chg_set ?_ _ _ _)))).mono ?_
    rintro e w' ⟨rfl, g5, rfl⟩
    by_cases hE2 : E2 = 0
    · subst hE2
      obtain ⟨b1, b2⟩ := HA.out.1 rfl
      have hB : prB l o2 t2 k2 = T ++ tail := by
        unfold prB
        rw [if_pos b1, b2]
      have hE0 : prE l o2 t2 k2 = 0 := by unfold prE; rw [if_pos b1]
      have hpr2 := HPR2.out
      rw [hB, hE0] at hpr2
      clear hB hE0 b1 b2 HPR2 HA hpr hrd1 hrd2
      go_wp2_with fail
      refine (hpr2 _ _ (HR1.out.grow (by repeat (with_reducible first | exact Chg.refl _ _ | refine chg_m ?_ _ | refine chg_g ?_ _ | refine chg_alloc ?_ _ | refine chg_drew ?_ | refine chg_drewN ?_ _ | refine chg_set ?_ _ _ _))) (HPw.out.grow (by repeat (with_reducible first | exact Chg.refl _ _ | refine chg_m ?_ _ | refine chg_g ?_ _ | refine chg_alloc ?_ _ | refine chg_drew ?_ | refine chg_drewN ?_ _ | refine chg_set ?_ _ _ _)))).mono ?_
      rintro e w' ⟨rfl, g6, rfl⟩
      go_wp2_with (go_at_call 10; refine (hal _).mono ?_; rintro e w' ⟨rfl, g7, rfl⟩)
      go_ret
      exact gr_mk (by simp) (by repeat (with_reducible first | exact CW.out | exact Chg.refl _ _ | refine chg_m ?_ _ | refine chg_g ?_ _ | refine chg_alloc ?_ _ | refine chg_drew ?_ | refine chg_drewN ?_ _ | refine chg_set ?_ _ _ _))
    · obtain ⟨rfl, rfl, rfl⟩ := HA.out.2 hE2
      have y1 : ((E2 : Int) != 0) = true := by simpa using hE2
      clear HPR2 HA hpr hrd1 hrd2 hE2
      go_wp2_with (go_at_call 10; refine (hal _).mono ?_; rintro e w' ⟨rfl, g7, rfl⟩)
      go_ret
      exact gr_mk (by simp) (by repeat (with_reducible first | exact CW.out | exact Chg.refl _ _ | refine chg_m ?_ _ | refine chg_g ?_ _ | refine chg_alloc ?_ _ | refine chg_drew ?_ | refine chg_drewN ?_ _ | refine chg_set ?_ _ _ _))
  · have hv : vld l.length o t k = false := by simpa using hv
    have hB : prB l o t k = ⟨#[]⟩ := by unfold prB; rw [if_neg (by simp [hv])]
    have hE0 : prE l o t k = 50 := by unfold prE; rw [if_neg (by simp [hv])]
    rw [hB, hE0] at hpr
    clear hB hE0 hv hnd hle
    go_enter Tryd.func5, Tryd.ntmps5
    go_wp2_with fail
    refine (h1 _).mono ?_
    rintro e W1 ⟨v, rfl, hR1, c1⟩
    obtain ⟨t1, A1, k1, m1, rfl⟩ := RosterIs.shape hR1
    have hx1 := (c1.block w.heap.size (by simp) (fun e => e)).trans (heap_alloc_new w (.cells #[.int .i64 o, .int .i64 t, .int .i64 k] 23))
    have hx0 : w.heap.size < W1.heap.size := (Array.getElem?_eq_some_iff.1 hx1).1
    have x0 : W1.cell? ⟨w.heap.size, 0, none⟩ = some (.int .i64 o) := (cell_of_row _ _ _ _ _ _ hx1).trans rfl
    have x1 : W1.cell? ⟨w.heap.size, 1, none⟩ = some (.int .i64 t) := (cell_of_row _ _ _ _ _ _ hx1).trans rfl
    have x2 : W1.cell? ⟨w.heap.size, 2, none⟩ = some (.int .i64 k) := (cell_of_row _ _ _ _ _ _ hx1).trans rfl
    have j0 : Old w.heap.size W1 := ⟨hx0⟩
    have c1w : Chg Noth w W1 := Chg.trans (by repeat (with_reducible first | exact Chg.refl _ _ | refine chg_m ?_ _ | refine chg_g ?_ _ | refine chg_alloc ?_ _ | refine chg_drew ?_ | refine chg_drewN ?_ _ | refine chg_set ?_ _ _ _)) c1 (fun _ _ e => e)
    have HR1 := Lib.hid hR1
    have CW := Lib.hid c1w
    have HPw := Lib.hid (HP.out.grow c1w)
    clear hR1 c1 c1w hx1
    go_wp2_with fail
    refine (hpr _ _ (HR1.out.grow (by repeat (with_reducible first | exact Chg.refl _ _ | refine chg_m ?_ _ | refine chg_g ?_ _ | refine chg_alloc ?_ _ | refine chg_drew ?_ | refine chg_drewN ?_ _ | refine chg_set ?_ _ _ _))) (HPw.out.grow (by repeat (with_reducible first | exact Chg.refl _ _ | refine chg_m ?_ _ | refine chg_g ?_ _ | refine chg_alloc ?_ _ | refine chg_drew ?_ | refine chg_drewN ?_ _ | refine chg_set ?_ _ _ _)))).mono ?_
    rintro e w' ⟨rfl, g3, rfl⟩
    go_wp2_with (go_at_call 10; refine (hal _).mono ?_; rintro e w' ⟨rfl, g7, rfl⟩)
    go_ret
    exact gr_mk (by simp) (by repeat (with_reducible first | exact CW.out | exact Chg.refl _ _ | refine chg_m ?_ _ | refine chg_g ?_ _ | refine chg_alloc ?_ _ | refine chg_drew ?_ | refine chg_drewN ?_ _ | refine chg_set ?_ _ _ _))
end Go.Proofs.YtgohhallpkknfaaDoor
