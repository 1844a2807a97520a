/- AuditCounts: the law's walk. -/
import Derived.Test.YteemkceceaabkaaGreatAlz
import Derived.Test.YteemkceceaabkaaGreatBz
import Derived.Test.YteemkceceaabkaaGreatDr
namespace Go.Ear
open Go.RowKit
end Go.Ear
namespace Go.Proofs.YteemkceceaabkaaGreat
open Go.RowKit Go.Ear
set_option maxHeartbeats 4000000
set_option maxRecDepth 100000
set_option linter.unusedSimpArgs false
set_option linter.unusedVariables false
theorem new_book19 {w : World} {p : Nat} (h : w.heap[p]? = some (.cells (Array.replicate 24 (.slice none 0 0)) 53 (0, 0))) : BookIs KT 53 w p (fun x => x = p) (fun x => x = p) := by
  have e : ∀ x, kcnt x ⟨.slice none 0 0, .slice none 0 0, []⟩ = 0 := fun x => by simp [kcnt, own1, Value.ownBlock]
  refine ⟨List.replicate 12 ⟨.slice none 0 0, .slice none 0 0, []⟩, ⟨by rw [h]; rfl, fun i t k _ hk => ?_, by rfl, fun x => ?_⟩, fun x => ?_, fun x => ?_⟩
  · obtain rfl := List.eq_of_mem_replicate (List.mem_of_getElem? hk)
    exact ⟨by simp, World.ownsRow_nil _ _ _ _, World.ownsRow_nil _ _ _ _, fun it hit => by simp at hit⟩
  · simp only [bcnt, List.map_replicate, e]
    simp
    split <;> omega
  · simp only [ccnt, own1, Value.ownBlock]
    simp
    split <;> simp [*]
  · simp only [bcnt, List.map_replicate, e]
    simp
    split <;> simp [*]
theorem good_lives (n : Int) (l : List Ev) : goodInts (livesOf n l).2.1 := by
  unfold livesOf
  split
  · exact ⟨_, rfl⟩
  · exact ⟨[], rfl⟩
theorem good_doubts (n : Int) (l : List Ev) : goodNotices (doubtsOf n l).2.1 := by
  unfold doubtsOf
  split
  · exact ⟨_, rfl⟩
  · exact ⟨[], rfl⟩
theorem few_lives (n : Int) (l : List Ev) : (livesOf n l).1 ≤ 100 := by
  unfold livesOf
  split
  · simp only
    omega
  · simp
theorem few_doubts (n : Int) (l : List Ev) : (doubtsOf n l).1 ≤ 100 := by
  unfold doubtsOf
  split
  · have := dl_len n l n.toNat
    simp only
    omega
  · simp
/-- Four lists put into a new book lie apart. -/
theorem four_apart (p : Nat) (a x c y : Value) (w : World) : True := trivial
theorem counts_any (n : Int) (A : Option Addr) (c : Nat) (l : List Ev) (w : World) (hE : EvsAt w A c l) : Calls Tryz.prog 5 #[i64 n, .slice A l.length c] w (Gr (.bool true) w) := by
  have hal := alive19_any
  by_cases hn : l.length ≤ 2000
  · have hle := fun W h => lent19_any A c l W h (by omega)
    have hli := fun A c W h => lives_any n A c l W h (by omega)
    have hlr := fun A c W h => livesR_any n A c l W h (by omega)
    have hdi := fun A c W h => doubts_any n A c l W h (by omega)
    have hdr := fun A c W h => doubtsR_any n A c l W h (by omega)
    have hst := fun g cap W h h' h'' => stays19_any g cap A c l W h h' h'' (by omega)
    have gl := good_lives n l
    have gd := good_doubts n l
    have fl := few_lives n l
    have fd := few_doubts n l
    generalize (livesOf n l).1 = n1 at *
    generalize (livesOf n l).2.1 = x1 at *
    generalize (livesOf n l).2.2 = r1 at *
    generalize (doubtsOf n l).1 = n2 at *
    generalize (doubtsOf n l).2.1 = x2 at *
    generalize (doubtsOf n l).2.2 = r2 at *
    have HLE := Lib.hid hle
    have HST := Lib.hid hst
    have HLI := Lib.hid hli
    have HLR := Lib.hid hlr
    have HDI := Lib.hid hdi
    have HDR := Lib.hid hdr
    clear hle hst hli hlr hdi hdr
    generalize hlen : l.length = len at *
    have HLEN := Lib.hid hlen
    clear hlen
    have hx : ¬ (2000 : Int) < (len : Int) := by omega
    go_enter Tryz.func5, Tryz.ntmps5
    go_wp2_with fail
    refine (HLE.out _ hE).mono ?_
    rintro e w' ⟨g, cap, rfl, hcap, hM, gr, e0⟩
    have c0 : Chg Noth w w' := by rw [e0]; exact gr.h
    clear e0 gr
    rw [HLEN.out] at hcap ⊢
    have hMf := evs_front hM
    have HM := Lib.hid hM
    clear hM
    go_wp2_with fail
    refine (HLI.out _ _ _ hMf).mono ?_
    rintro e W1 ⟨A1, k1, rfl, ho1, g1, e1⟩
    have c1 : Chg Noth w' W1 := by rw [e1]; exact g1.h
    clear e1 g1
    have HO1 := Lib.hid ho1
    clear ho1
    go_wp2_with fail
    refine (HLR.out _ _ _ (hE.grow (c0.trans c1 (fun _ _ e => e)))).mono ?_
    rintro e W2 ⟨A2, k2, rfl, ho2, g2, e2⟩
    have c2 : Chg Noth W1 W2 := by rw [e2]; exact g2.h
    clear e2 g2
    have HO2 := Lib.hid ho2
    clear ho2
    go_wp2_with fail
    refine (HDI.out _ _ _ (hMf.grow (c1.trans c2 (fun _ _ e => e)))).mono ?_
    rintro e W3 ⟨A3, k3, rfl, ho3, g3, e3⟩
    have c3 : Chg Noth W2 W3 := by rw [e3]; exact g3.h
    clear e3 g3
    have HO3 := Lib.hid ho3
    clear ho3
    go_wp2_with fail
    refine (HDR.out _ _ _ (hE.grow (((c0.trans c1 (fun _ _ e => e)).trans c2 (fun _ _ e => e)).trans c3 (fun _ _ e => e)))).mono ?_
    rintro e W4 ⟨A4, k4, rfl, ho4, g4, e4⟩
    have c4 : Chg Noth W3 W4 := by rw [e4]; exact g4.h
    clear e4 g4
    have HO4 := Lib.hid ho4
    clear ho4
    have c04 : Chg Noth w W4 := (((c0.trans c1 (fun _ _ e => e)).trans c2 (fun _ _ e => e)).trans c3 (fun _ _ e => e)).trans c4 (fun _ _ e => e)
    have c14 : Chg Noth w' W4 := ((c1.trans c2 (fun _ _ e => e)).trans c3 (fun _ _ e => e)).trans c4 (fun _ _ e => e)
    have y1 : ((r1 : Int) != r1) = false := by simp
    have y2 : ((r2 : Int) != r2) = false := by simp
    have s1 : SL W4 (.slice A1 n1 k1) n1 1 x1 := (SL.of_own HO1.out).grow ((c2.trans c3 (fun _ _ e => e)).trans c4 (fun _ _ e => e))
    have s2 : SL W4 (.slice A2 n1 k2) n1 1 x1 := (SL.of_own HO2.out).grow (c3.trans c4 (fun _ _ e => e))
    have s3 : SL W4 (.slice A3 n2 k3) n2 3 x2 := (SL.of_own HO3.out).grow c4
    have s4 : SL W4 (.slice A4 n2 k4) n2 3 x2 := SL.of_own HO4.out
    have HM4 := Lib.hid (HM.out.grow c14)
    have HE4 := Lib.hid (hE.grow c04)
    have HMF4 := Lib.hid (hMf.grow c14)
    have HS := Lib.hid (And.intro s1 (And.intro s2 (And.intro s3 s4)))
    have HX := Lib.hid (And.intro gl gd)
    clear s1 s2 s3 s4 hMf gl gd
    have b1 : ∀ k, (Value.slice A1 n1 k1).ownBlock = some k → w'.heap.size ≤ k ∧ k < W1.heap.size := fun k hk => HO1.out.lt k hk
    have b3 : ∀ k, (Value.slice A3 n2 k3).ownBlock = some k → W2.heap.size ≤ k ∧ k < W3.heap.size := fun k hk => HO3.out.lt k hk
    have z0 := c0.size
    have z2 := c2.size
    have z4 := c4.size
    have o1 : W4.ownsRow w'.heap.size 3 1 (.slice A1 n1 k1) n1 x1 := own_chg HO1.out ((c2.trans c3 (fun _ _ e => e)).trans c4 (fun _ _ e => e)) (fun _ _ e => e)
    have o3 : W4.ownsRow W2.heap.size 81 3 (.slice A3 n2 k3) n2 x2 := own_chg HO3.out c4 (fun _ _ e => e)
    have HZ := Lib.hid (And.intro z0 (And.intro z2 (And.intro z4 (And.intro c1.size c3.size))))
    have HBB := Lib.hid (And.intro b1 b3)
    have HOO := Lib.hid (And.intro o1 o3)
    have HC4 := Lib.hid c04
    clear c0 c1 c2 c3 c4 c04 c14 z0 z2 z4 b1 b3 o1 o3 HO1 HO2 HO3 HO4 HM hE
    go_wp2_with fail
    refine (sameInts_any' _ _ _ _ _ x1 _ HX.out.1 HS.out.1 HS.out.2.1 (by omega)).mono ?_
    rintro e W5 ⟨rfl, g5, e5⟩
    have c5 : Chg Noth W4 W5 := by rw [e5]; exact g5.h
    clear e5 g5
    go_wp2_with fail
    refine (sameNotices_any' _ _ _ _ _ x2 _ HX.out.2 (HS.out.2.2.1.grow c5) (HS.out.2.2.2.grow c5) (by omega)).mono ?_
    rintro e W6 ⟨rfl, g6, e6⟩
    have c6 : Chg Noth W5 W6 := by rw [e6]; exact g6.h
    clear e6 g6
    have c46 := c5.trans c6 (fun _ _ e => e)
    go_wp2_with fail
    refine (HST.out g cap _ ?ca hcap ?cb).mono ?cc
    case ca => exact HM4.out.grow c46
    case cb => exact HE4.out.grow c46
    rintro e W7 ⟨rfl, g7, e7⟩
    have c7 : Chg Noth W6 W7 := by rw [e7]; exact g7.h
    clear e7 g7
    have c47 := c46.trans c7 (fun _ _ e => e)
    clear c5 c6 c46 c7
    go_wp2_with fail
    refine (HLI.out _ _ _ (HE4.out.grow c47)).mono ?_
    rintro e W8 ⟨A8, k8, rfl, ho8, g8, e8⟩
    have c8 : Chg Noth W7 W8 := by rw [e8]; exact g8.h
    clear e8 g8
    have HO8 := Lib.hid ho8
    clear ho8
    go_wp2_with fail
    refine (HDI.out _ _ _ (HE4.out.grow (c47.trans c8 (fun _ _ e => e)))).mono ?_
    rintro e W9 ⟨A9, k9, rfl, ho9, g9, e9⟩
    have c9 : Chg Noth W8 W9 := by rw [e9]; exact g9.h
    clear e9 g9
    have c49 := (c47.trans c8 (fun _ _ e => e)).trans c9 (fun _ _ e => e)
    have hw9 : Chg Noth w W9 := HC4.out.trans c49 (fun _ _ e => e)
    have b8 : ∀ k, (Value.slice A8 n1 k8).ownBlock = some k → W7.heap.size ≤ k ∧ k < W8.heap.size := fun k hk => HO8.out.lt k hk
    have b9 : ∀ k, (Value.slice A9 n2 k9).ownBlock = some k → W8.heap.size ≤ k ∧ k < W9.heap.size := fun k hk => ho9.lt k hk
    have o8 : W9.ownsRow W7.heap.size 3 1 (.slice A8 n1 k8) n1 x1 := own_chg HO8.out c9 (fun _ _ e => e)
    have o1 : W9.ownsRow w'.heap.size 3 1 (.slice A1 n1 k1) n1 x1 := own_chg HOO.out.1 c49 (fun _ _ e => e)
    have o3 : W9.ownsRow W2.heap.size 81 3 (.slice A3 n2 k3) n2 x2 := own_chg HOO.out.2 c49 (fun _ _ e => e)
    have zz : w.heap.size ≤ w'.heap.size ∧ w'.heap.size ≤ W1.heap.size ∧ W1.heap.size ≤ W2.heap.size ∧ W2.heap.size ≤ W3.heap.size ∧ W3.heap.size ≤ W4.heap.size ∧ W4.heap.size ≤ W7.heap.size ∧ W7.heap.size ≤ W8.heap.size ∧ W8.heap.size ≤ W9.heap.size :=
      ⟨HZ.out.1, HZ.out.2.2.2.1, HZ.out.2.1, HZ.out.2.2.2.2, HZ.out.2.2.1, c47.size, c8.size, c9.size⟩
    have HO := Lib.hid (And.intro o1 (And.intro o8 (And.intro o3 ho9)))
    have HB := Lib.hid (And.intro HBB.out.1 (And.intro b8 (And.intro HBB.out.2 b9)))
    have HW9 := Lib.hid hw9
    have ZZ := Lib.hid zz
    clear c47 c8 c9 c49 hw9 b8 b9 o8 o1 o3 ho9 zz HO8 HOO HBB HZ HC4 HM4 HE4 HMF4 HS HLE HST HLI HLR HDI HDR
    have hnew := heap_alloc_new W9 (.cells (Array.replicate 24 (.slice none 0 0)) 53)
    go_wp2_with fail
    refine (bookInts_any W9.heap.size (fun x => x = W9.heap.size) (fun x => x = W9.heap.size) A1 n1 k1 x1 _ (new_book19 hnew) (own_low (own_chg HO.out.1 (chg_alloc (Chg.refl Noth _) _) (fun _ _ e => e)) (Nat.zero_le _)) HX.out.1 (fun k hk hf => by have := HB.out.1 k hk; have := ZZ.out; omega) (by omega)).mono ?_
    rintro e Y1 ⟨rfl, m1, C1, F1, e1, B1, hC1, hF1⟩
    have q1 : Chg Noth W9 Y1 := by rw [e1]; exact (chg_alloc (Chg.refl Noth _) _).trans m1.h (fun i hi e => by subst e; exact absurd hi (Nat.lt_irrefl _))
    rw [← e1] at B1
    have D1 : ∀ k, C1 k → W9.heap.size ≤ k := fun k hk => by
      rcases hC1 k hk with h | h
      · omega
      · simp at h; omega
    have E1 : ∀ k, F1 k → (Value.slice A1 n1 k1).ownBlock = some k ∨ W9.heap.size ≤ k := fun k hk => by
      rcases hF1 k hk with h | h | h
      · exact .inr (by omega)
      · exact .inl h
      · simp at h; exact .inr (by omega)
    clear hC1 hF1 e1 m1 hnew
    have B := Lib.hid (And.intro B1 (And.intro D1 E1))
    clear B1 D1 E1
    go_wp2_with fail
    refine (bookInts_any W9.heap.size C1 F1 A8 n1 k8 x1 _ B.out.1 (own_low (own_chg HO.out.2.1 q1 (fun _ _ e => e)) (Nat.zero_le _)) HX.out.1 ?cx (by omega)).mono ?_
    case cx =>
      intro k hk hf
      have u1 := HB.out.2.1 k hk
      have u2 := ZZ.out
      rcases B.out.2.2 k hf with h | h
      · have := HB.out.1 k h; omega
      · omega
    rintro e Y2 ⟨rfl, m2, C2, F2, e2, B2, hC2, hF2⟩
    have q2 : Chg Noth W9 Y2 := by rw [e2]; exact q1.trans m2.h (fun j hj e => by have := B.out.2.1 j e; omega)
    rw [← e2] at B2
    have D2 : ∀ k, C2 k → W9.heap.size ≤ k := fun k hk => by
      rcases hC2 k hk with h | h
      · exact B.out.2.1 k h
      · have := q1.size; omega
    have E2 : ∀ k, F2 k → (Value.slice A1 n1 k1).ownBlock = some k ∨ (Value.slice A8 n1 k8).ownBlock = some k ∨ W9.heap.size ≤ k := fun k hk => by
      rcases hF2 k hk with h | h | h
      · rcases B.out.2.2 k h with h | h <;> simp [h]
      · simp [h]
      · have := q1.size
        have : W9.heap.size ≤ k := by omega
        simp [this]
    clear hC2 hF2 e2 m2 B
    have B := Lib.hid (And.intro B2 (And.intro D2 E2))
    clear B2 D2 E2
    go_wp2_with fail
    refine (bookNotices_any W9.heap.size C2 F2 A3 n2 k3 x2 _ B.out.1 (own_low (own_chg HO.out.2.2.1 q2 (fun _ _ e => e)) (Nat.zero_le _)) HX.out.2 ?cx (by omega)).mono ?_
    case cx =>
      intro k hk hf
      have u1 := HB.out.2.2.1 k hk
      have u2 := ZZ.out
      rcases B.out.2.2 k hf with h | h | h
      · have := HB.out.1 k h; omega
      · have := HB.out.2.1 k h; omega
      · omega
    rintro e Y3 ⟨rfl, m3, C3, F3, e3, B3, hC3, hF3⟩
    have q3 : Chg Noth W9 Y3 := by rw [e3]; exact q2.trans m3.h (fun j hj e => by have := B.out.2.1 j e; omega)
    rw [← e3] at B3
    have D3 : ∀ k, C3 k → W9.heap.size ≤ k := fun k hk => by
      rcases hC3 k hk with h | h
      · exact B.out.2.1 k h
      · have := q2.size; omega
    have E3 : ∀ k, F3 k → (Value.slice A1 n1 k1).ownBlock = some k ∨ (Value.slice A8 n1 k8).ownBlock = some k ∨ (Value.slice A3 n2 k3).ownBlock = some k ∨ W9.heap.size ≤ k := fun k hk => by
      rcases hF3 k hk with h | h | h
      · rcases B.out.2.2 k h with h | h | h <;> simp [h]
      · simp [h]
      · have := q2.size
        have : W9.heap.size ≤ k := by omega
        simp [this]
    clear hC3 hF3 e3 m3 B
    have B := Lib.hid (And.intro B3 (And.intro D3 E3))
    clear B3 D3 E3
    go_wp2_with fail
    refine (bookNotices_any W9.heap.size C3 F3 A9 n2 k9 x2 _ B.out.1 (own_low (own_chg HO.out.2.2.2 q3 (fun _ _ e => e)) (Nat.zero_le _)) HX.out.2 ?cx (by omega)).mono ?_
    case cx =>
      intro k hk hf
      have u1 := HB.out.2.2.2 k hk
      have u2 := ZZ.out
      rcases B.out.2.2 k hf with h | h | h | h
      · have := HB.out.1 k h; omega
      · have := HB.out.2.1 k h; omega
      · have := HB.out.2.2.1 k h; omega
      · omega
    rintro e Y4 ⟨rfl, m4, C4, F4, e4, B4, hC4, hF4⟩
    have q4 : Chg Noth W9 Y4 := by rw [e4]; exact q3.trans m4.h (fun j hj e => by have := B.out.2.1 j e; omega)
    rw [← e4] at B4
    have D4 : ∀ k, C4 k → W9.heap.size ≤ k := fun k hk => by
      rcases hC4 k hk with h | h
      · exact B.out.2.1 k h
      · have := q3.size; omega
    have E4 : ∀ k, F4 k → (Value.slice A1 n1 k1).ownBlock = some k ∨ (Value.slice A8 n1 k8).ownBlock = some k ∨ (Value.slice A3 n2 k3).ownBlock = some k ∨ (Value.slice A9 n2 k9).ownBlock = some k ∨ W9.heap.size ≤ k := fun k hk => by
      rcases hF4 k hk with h | h | h
      · rcases B.out.2.2 k h with h | h | h | h <;> simp [h]
      · simp [h]
      · have := q3.size
        have : W9.heap.size ≤ k := by omega
        simp [this]
    clear hC4 hF4 e4 m4 B
    have B := Lib.hid (And.intro B4 (And.intro D4 E4))
    clear B4 D4 E4
    go_wp2_with fail
    refine (hal _).mono ?_
    rintro e Y5 ⟨rfl, g, e5⟩
    have q5 : Chg Noth Y4 Y5 := by rw [e5]; exact g.h
    clear e5 g
    go_wp2_with fail
    refine (apart_any W9.heap.size C4 F4 _ (B.out.1.grow q5)).mono ?_
    rintro e Y6 ⟨rfl, q6⟩
    have hfin : Chg Noth w Y6 := ((HW9.out.trans q4 (fun _ _ e => e)).trans q5 (fun _ _ e => e)).trans q6 (fun k hk hf => by
      have u2 := ZZ.out
      rcases B.out.2.2 k hf with h | h | h | h | h
      · have := HB.out.1 k h; omega
      · have := HB.out.2.1 k h; omega
      · have := HB.out.2.2.1 k h; omega
      · have := HB.out.2.2.2 k h; omega
      · omega)
    go_wp2
    go_ret
    exact gr_mk rfl hfin
  · have hx : (2000 : Int) < (l.length : Int) := by omega
    generalize l.length = len at *
    go_enter Tryz.func5, Tryz.ntmps5
    go_wp2_with fail
    refine (hal _).mono ?_
    rintro e w' ⟨rfl, g3, rfl⟩
    go_wp2
    go_ret
    exact gr_mk rfl (by repeat (with_reducible first | exact Chg.refl _ _ | refine chg_m ?_ _ | refine chg_g ?_ _ | refine chg_alloc ?_ _ | refine chg_drew ?_ | refine chg_drewN ?_ _ | refine chg_set ?_ _ _ _))
end Go.Proofs.YteemkceceaabkaaGreat
