/- The escapes of a quoted text: two hexadecimal digits. -/
import Derived.Test.YtkamjhhaghkdmaaDoorH23
namespace Go.Proofs.YtkamjhhaghkdmaaDoor
open Go.RowKit Go.Ear Go.Proofs.YtkamjhhaghkdmaaDoorW.PrintWords Go.Proofs.YtkamjhhaghkdmaaDoor.PScriptLines
set_option maxHeartbeats 4000000
set_option maxRecDepth 100000
set_option linter.unusedSimpArgs false
set_option linter.unusedVariables false
theorem esc_x1 (s : ByteArray) (w : World) (hc : atB s 1 = 120) (c2' c3' : Nat) (v2 v3 : Int) (h2 : atB s 2 = c2') (h3 : atB s 3 = c3') (e2 : hexV c2' = v2) (e3 : hexV c3' = v3) (n2 : v2 < 0) : Calls Tryd.prog 41 #[.string s] w (Gc (escRes s) w) := by
  have A2 : Hid (atB s 2 = c2') := Lib.hid h2
  have A3 : Hid (atB s 3 = c3') := Lib.hid h3
  have V2 : Hid (hexV c2' = v2) := Lib.hid e2
  have V3 : Hid (hexV c3' = v3) := Lib.hid e3
  have l2 : Hid (c2' < 256) := Lib.hid (by rw [← h2]; exact atB_lt s 2)
  have l3 : Hid (c3' < 256) := Lib.hid (by rw [← h3]; exact atB_lt s 3)
  have b2 := hexV_bound c2'
  have b3 := hexV_bound c3'
  rw [e2] at b2
  rw [e3] at b3
  have HE : Hid (esc s 0 = if 0 ≤ v2 ∧ 0 ≤ v3 then some ([UInt8.ofNat (v2.toNat * 16 + v3.toNat)], 4) else none) := Lib.hid (by
    unfold esc
    simp [hc, h2, h3, e2, e3])
  clear h2 h3 e2 e3
  have HN : Hid (escRes s = .tuple #[.string ⟨#[]⟩, .int .i64 0, .bool false]) := Lib.hid (by unfold escRes; rw [HE.out, if_neg (by omega)])
  have x2 : decide (v2 < 0) = true := decide_eq_true n2
  have hmf : ∀ (fn : Fn) (first cap : Array Value) (w : World), (Instr.makeFunc fn first cap).run Tryd.prog w = .ok (.func fn first cap) w := fun _ _ _ _ => rfl
  obtain ⟨X, hX⟩ : ∃ X, w.alloc (.cells #[.string s] 9) = X := ⟨_, rfl⟩
  have hcX : Chg Noth w X := by rw [← hX]; exact chg_alloc (Chg.refl _ _) _
  have hcell : X.cell? ⟨w.heap.size, 0, none⟩ = some (.string s) := by rw [← hX]; simp [go_sem]
  have jb : Old w.heap.size X := ⟨by rw [← hX]; simp⟩
  have h1 := atc_v s w.heap.size 1 X hcell jb
  rw [hc, show ((120 : Nat) : Int) = 120 from rfl, show ((1 : Nat) : Int) = 1 from rfl] at h1
  clear hc n2 b2 b3
  go_enter Tryd.func41, Tryd.ntmps41
  go_wp2
  refine wp_scope_chain 2 fun C hC => ?_
  have HC := Lib.hid hC
  clear hC
  try rw [hX]
  have HX := Lib.hid hX
  clear hX
  go_wp2_with fail
  go_at_call 56
  refine h1.mono ?_
  rintro e X1 ⟨rfl, c1⟩
  obtain ⟨q1, j1⟩ := keepc c1 hcell jb
  clear h1
  go_wp2_with fail
  refine wp_goto ?_
  show Exit.chain _ _ _ 2 (.goto 0) _ _
  simp only [Exit.chain]
  refine ⟨_, (congrArg (findLabel · 0) HC.out).trans rfl, ?_⟩
  have a2 := atc_v s w.heap.size 2 X1 q1 j1
  rw [A2.out, show ((2 : Nat) : Int) = 2 from rfl] at a2
  go_wp2_with fail
  go_at_call 56
  refine (a2).mono ?_
  rintro e X2 ⟨rfl, c2⟩
  obtain ⟨q2, j2⟩ := keepc c2 q1 j1
  clear a2
  have d3 := digit_v c2' l2.out X2
  rw [V2.out] at d3
  go_wp2_with fail
  go_at_call 57
  refine (d3).mono ?_
  rintro e X3 ⟨rfl, c3⟩
  obtain ⟨q3, j3⟩ := keepc c3 q2 j2
  clear d3
  go_wp2_with fail
  refine wp_goto ?_
  show Exit.chain _ _ _ 1 (.goto 2) _ _
  simp only [Exit.chain]
  refine ⟨_, (congrArg (findLabel · 2) HC.out).trans rfl, ?_⟩
  go_wp2
  rw [chain_ret]
  refine bodyPost_ret (v := .tuple #[.string ⟨#[]⟩, .int .i64 0, .bool false]) (by simp [results, Tryd.results41, go_sem, *]) rfl ?_
  rw [HN.out]
  exact ⟨rfl, (((hcX.trans c1 (fun _ _ e => e)).trans c2 (fun _ _ e => e)).trans c3 (fun _ _ e => e))⟩
theorem esc_x2 (s : ByteArray) (w : World) (hc : atB s 1 = 120) (c2' c3' : Nat) (v2 v3 : Int) (h2 : atB s 2 = c2') (h3 : atB s 3 = c3') (e2 : hexV c2' = v2) (e3 : hexV c3' = v3) (n2 : ¬ v2 < 0) (n3 : v3 < 0) : Calls Tryd.prog 41 #[.string s] w (Gc (escRes s) w) := by
  have A2 : Hid (atB s 2 = c2') := Lib.hid h2
  have A3 : Hid (atB s 3 = c3') := Lib.hid h3
  have V2 : Hid (hexV c2' = v2) := Lib.hid e2
  have V3 : Hid (hexV c3' = v3) := Lib.hid e3
  have l2 : Hid (c2' < 256) := Lib.hid (by rw [← h2]; exact atB_lt s 2)
  have l3 : Hid (c3' < 256) := Lib.hid (by rw [← h3]; exact atB_lt s 3)
  have b2 := hexV_bound c2'
  have b3 := hexV_bound c3'
  rw [e2] at b2
  rw [e3] at b3
  have HE : Hid (esc s 0 = if 0 ≤ v2 ∧ 0 ≤ v3 then some ([UInt8.ofNat (v2.toNat * 16 + v3.toNat)], 4) else none) := Lib.hid (by
    unfold esc
    simp [hc, h2, h3, e2, e3])
  clear h2 h3 e2 e3
  have HN : Hid (escRes s = .tuple #[.string ⟨#[]⟩, .int .i64 0, .bool false]) := Lib.hid (by unfold escRes; rw [HE.out, if_neg (by omega)])
  have x2 : decide (v2 < 0) = false := decide_eq_false n2
  have x3 : decide (v3 < 0) = true := decide_eq_true n3
  have hmf : ∀ (fn : Fn) (first cap : Array Value) (w : World), (Instr.makeFunc fn first cap).run Tryd.prog w = .ok (.func fn first cap) w := fun _ _ _ _ => rfl
  obtain ⟨X, hX⟩ : ∃ X, w.alloc (.cells #[.string s] 9) = X := ⟨_, rfl⟩
  have hcX : Chg Noth w X := by rw [← hX]; exact chg_alloc (Chg.refl _ _) _
  have hcell : X.cell? ⟨w.heap.size, 0, none⟩ = some (.string s) := by rw [← hX]; simp [go_sem]
  have jb : Old w.heap.size X := ⟨by rw [← hX]; simp⟩
  have h1 := atc_v s w.heap.size 1 X hcell jb
  rw [hc, show ((120 : Nat) : Int) = 120 from rfl, show ((1 : Nat) : Int) = 1 from rfl] at h1
  clear hc n2 n3 b2 b3
  go_enter Tryd.func41, Tryd.ntmps41
  go_wp2
  refine wp_scope_chain 2 fun C hC => ?_
  have HC := Lib.hid hC
  clear hC
  try rw [hX]
  have HX := Lib.hid hX
  clear hX
  go_wp2_with fail
  go_at_call 56
  refine h1.mono ?_
  rintro e X1 ⟨rfl, c1⟩
  obtain ⟨q1, j1⟩ := keepc c1 hcell jb
  clear h1
  go_wp2_with fail
  refine wp_goto ?_
  show Exit.chain _ _ _ 2 (.goto 0) _ _
  simp only [Exit.chain]
  refine ⟨_, (congrArg (findLabel · 0) HC.out).trans rfl, ?_⟩
  have a2 := atc_v s w.heap.size 2 X1 q1 j1
  rw [A2.out, show ((2 : Nat) : Int) = 2 from rfl] at a2
  go_wp2_with fail
  go_at_call 56
  refine (a2).mono ?_
  rintro e X2 ⟨rfl, c2⟩
  obtain ⟨q2, j2⟩ := keepc c2 q1 j1
  clear a2
  have d3 := digit_v c2' l2.out X2
  rw [V2.out] at d3
  go_wp2_with fail
  go_at_call 57
  refine (d3).mono ?_
  rintro e X3 ⟨rfl, c3⟩
  obtain ⟨q3, j3⟩ := keepc c3 q2 j2
  clear d3
  have a4 := atc_v s w.heap.size 3 X3 q3 j3
  rw [A3.out, show ((3 : Nat) : Int) = 3 from rfl] at a4
  go_wp2_with fail
  go_at_call 56
  refine (a4).mono ?_
  rintro e X4 ⟨rfl, c4⟩
  obtain ⟨q4, j4⟩ := keepc c4 q3 j3
  clear a4
  have d5 := digit_v c3' l3.out X4
  rw [V3.out] at d5
  go_wp2_with fail
  go_at_call 57
  refine (d5).mono ?_
  rintro e X5 ⟨rfl, c5⟩
  obtain ⟨q5, j5⟩ := keepc c5 q4 j4
  clear d5
  go_wp2_with fail
  refine wp_goto ?_
  show Exit.chain _ _ _ 1 (.goto 2) _ _
  simp only [Exit.chain]
  refine ⟨_, (congrArg (findLabel · 2) HC.out).trans rfl, ?_⟩
  go_wp2
  rw [chain_ret]
  refine bodyPost_ret (v := .tuple #[.string ⟨#[]⟩, .int .i64 0, .bool false]) (by simp [results, Tryd.results41, go_sem, *]) rfl ?_
  rw [HN.out]
  exact ⟨rfl, (((((hcX.trans c1 (fun _ _ e => e)).trans c2 (fun _ _ e => e)).trans c3 (fun _ _ e => e)).trans c4 (fun _ _ e => e)).trans c5 (fun _ _ e => e))⟩
theorem conv_byte (m : Nat) (W : World) (q c : Nat) (hm : m < 256) (h : W.cell? ⟨q, 0, none⟩ = some (.int .u8 (m : Int))) : (convert 48 9 (.slice (some ⟨q, 0, none⟩) 1 c)).run Tryd.prog W = .ok (.string ⟨#[UInt8.ofNat m]⟩) W :=
  run_convert_bytes_back (P := Tryd.prog) W 48 9 5 ⟨q, 0, none⟩ c [UInt8.ofNat m] Tryd.underlying48 Tryd.underlying5 Tryd.underlying9 (fun j hj => by
    have : j = 0 := by simp at hj; exact hj
    subst this
    refine h.trans ?_
    simp [Nat.mod_eq_of_lt hm])
theorem esc_x3 (s : ByteArray) (w : World) (hc : atB s 1 = 120) (c2' c3' : Nat) (v2 v3 : Int) (h2 : atB s 2 = c2') (h3 : atB s 3 = c3') (e2 : hexV c2' = v2) (e3 : hexV c3' = v3) (n2 : ¬ v2 < 0) (n3 : ¬ v3 < 0) : Calls Tryd.prog 41 #[.string s] w (Gc (escRes s) w) := by
  have A2 : Hid (atB s 2 = c2') := Lib.hid h2
  have A3 : Hid (atB s 3 = c3') := Lib.hid h3
  have V2 : Hid (hexV c2' = v2) := Lib.hid e2
  have V3 : Hid (hexV c3' = v3) := Lib.hid e3
  have l2 : Hid (c2' < 256) := Lib.hid (by rw [← h2]; exact atB_lt s 2)
  have l3 : Hid (c3' < 256) := Lib.hid (by rw [← h3]; exact atB_lt s 3)
  have b2 := hexV_bound c2'
  have b3 := hexV_bound c3'
  rw [e2] at b2
  rw [e3] at b3
  have HE : Hid (esc s 0 = if 0 ≤ v2 ∧ 0 ≤ v3 then some ([UInt8.ofNat (v2.toNat * 16 + v3.toNat)], 4) else none) := Lib.hid (by
    unfold esc
    simp [hc, h2, h3, e2, e3])
  clear h2 h3 e2 e3
  have x2 : decide (v2 < 0) = false := decide_eq_false n2
  have x3 : decide (v3 < 0) = false := decide_eq_false n3
  obtain ⟨m2, rfl⟩ := Int.eq_ofNat_of_zero_le (show 0 ≤ v2 by omega)
  obtain ⟨m3, rfl⟩ := Int.eq_ofNat_of_zero_le (show 0 ≤ v3 by omega)
  obtain ⟨m, hm⟩ : ∃ m, m2 * 16 + m3 = m := ⟨_, rfl⟩
  have hml : m < 256 := by omega
  have HN : Hid (escRes s = .tuple #[.string ⟨#[UInt8.ofNat m]⟩, .int .i64 4, .bool true]) := Lib.hid (by unfold escRes; rw [HE.out, if_pos (by omega)]; simp [hm])
  have hor := or16 m2 m3 (by omega) (by omega)
  rw [hm] at hor
  have hw16 : wrap64 ((m2 : Int) * 16) = (m2 : Int) * 16 := wid (by omega) (by omega)
  have hmod : (m : Int) % 256 = (m : Int) := by omega
  have hcv : ∀ (W : World) (q c : Nat), W.cell? ⟨q, 0, none⟩ = some (.int .u8 (m : Int)) → _ := fun W q c h => conv_byte m W q c hml h
  clear hm hml b2 b3 HE
  have hmf : ∀ (fn : Fn) (first cap : Array Value) (w : World), (Instr.makeFunc fn first cap).run Tryd.prog w = .ok (.func fn first cap) w := fun _ _ _ _ => rfl
  obtain ⟨X, hX⟩ : ∃ X, w.alloc (.cells #[.string s] 9) = X := ⟨_, rfl⟩
  have hcX : Chg Noth w X := by rw [← hX]; exact chg_alloc (Chg.refl _ _) _
  have hcell : X.cell? ⟨w.heap.size, 0, none⟩ = some (.string s) := by rw [← hX]; simp [go_sem]
  have jb : Old w.heap.size X := ⟨by rw [← hX]; simp⟩
  have h1 := atc_v s w.heap.size 1 X hcell jb
  rw [hc, show ((120 : Nat) : Int) = 120 from rfl, show ((1 : Nat) : Int) = 1 from rfl] at h1
  clear hc
  go_enter Tryd.func41, Tryd.ntmps41
  go_wp2
  refine wp_scope_chain 2 fun C hC => ?_
  have HC := Lib.hid hC
  clear hC
  try rw [hX]
  have HX := Lib.hid hX
  clear hX
  go_wp2_with fail
  go_at_call 56
  refine h1.mono ?_
  rintro e X1 ⟨rfl, c1⟩
  obtain ⟨q1, j1⟩ := keepc c1 hcell jb
  clear h1
  go_wp2_with fail
  refine wp_goto ?_
  show Exit.chain _ _ _ 2 (.goto 0) _ _
  simp only [Exit.chain]
  refine ⟨_, (congrArg (findLabel · 0) HC.out).trans rfl, ?_⟩
  have a2 := atc_v s w.heap.size 2 X1 q1 j1
  rw [A2.out, show ((2 : Nat) : Int) = 2 from rfl] at a2
  go_wp2_with fail
  go_at_call 56
  refine (a2).mono ?_
  rintro e X2 ⟨rfl, c2⟩
  obtain ⟨q2, j2⟩ := keepc c2 q1 j1
  clear a2
  have d3 := digit_v c2' l2.out X2
  rw [V2.out] at d3
  go_wp2_with fail
  go_at_call 57
  refine (d3).mono ?_
  rintro e X3 ⟨rfl, c3⟩
  obtain ⟨q3, j3⟩ := keepc c3 q2 j2
  clear d3
  have a4 := atc_v s w.heap.size 3 X3 q3 j3
  rw [A3.out, show ((3 : Nat) : Int) = 3 from rfl] at a4
  go_wp2_with fail
  go_at_call 56
  refine (a4).mono ?_
  rintro e X4 ⟨rfl, c4⟩
  obtain ⟨q4, j4⟩ := keepc c4 q3 j3
  clear a4
  have d5 := digit_v c3' l3.out X4
  rw [V3.out] at d5
  go_wp2_with fail
  go_at_call 57
  refine (d5).mono ?_
  rintro e X5 ⟨rfl, c5⟩
  obtain ⟨q5, j5⟩ := keepc c5 q4 j4
  clear d5
  have a6 := atc_v s w.heap.size 2 X5 q5 j5
  rw [A2.out, show ((2 : Nat) : Int) = 2 from rfl] at a6
  go_wp2_with fail
  go_at_call 56
  refine (a6).mono ?_
  rintro e X6 ⟨rfl, c6⟩
  obtain ⟨q6, j6⟩ := keepc c6 q5 j5
  clear a6
  have d7 := digit_v c2' l2.out X6
  rw [V2.out] at d7
  go_wp2_with fail
  go_at_call 57
  refine (d7).mono ?_
  rintro e X7 ⟨rfl, c7⟩
  obtain ⟨q7, j7⟩ := keepc c7 q6 j6
  clear d7
  have a8 := atc_v s w.heap.size 3 X7 q7 j7
  rw [A3.out, show ((3 : Nat) : Int) = 3 from rfl] at a8
  go_wp2_with fail
  go_at_call 56
  refine (a8).mono ?_
  rintro e X8 ⟨rfl, c8⟩
  obtain ⟨q8, j8⟩ := keepc c8 q7 j7
  clear a8
  have d9 := digit_v c3' l3.out X8
  rw [V3.out] at d9
  go_wp2_with fail
  go_at_call 57
  refine (d9).mono ?_
  rintro e X9 ⟨rfl, c9⟩
  obtain ⟨q9, j9⟩ := keepc c9 q8 j8
  clear d9
  go_wp2_with fail
  rw [chain_ret]
  refine bodyPost_ret (v := .tuple #[.string ⟨#[UInt8.ofNat m]⟩, .int .i64 4, .bool true]) (by simp [results, Tryd.results41, go_sem, *]) rfl ?_
  rw [HN.out]
  exact ⟨rfl, chg_alloc (((((((((hcX.trans c1 (fun _ _ e => e)).trans c2 (fun _ _ e => e)).trans c3 (fun _ _ e => e)).trans c4 (fun _ _ e => e)).trans c5 (fun _ _ e => e)).trans c6 (fun _ _ e => e)).trans c7 (fun _ _ e => e)).trans c8 (fun _ _ e => e)).trans c9 (fun _ _ e => e)) _⟩
end Go.Proofs.YtkamjhhaghkdmaaDoor
