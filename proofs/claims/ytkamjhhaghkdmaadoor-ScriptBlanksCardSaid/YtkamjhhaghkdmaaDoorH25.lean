/- The escapes of a quoted text: a rune's number. -/
import Derived.Test.YtkamjhhaghkdmaaDoorH23
namespace Go.Proofs.YtkamjhhaghkdmaaDoor
open Go.RowKit Go.Ear Go.Proofs.YtkamjhhaghkdmaaDoorW.PrintWords Go.Proofs.YtkamjhhaghkdmaaDoor.PScriptLines
set_option maxHeartbeats 4000000
set_option maxRecDepth 100000
set_option linter.unusedSimpArgs false
set_option linter.unusedVariables false
theorem esc_u1 (s : ByteArray) (w : World) (hc : atB s 1 = 117) (c2' : Nat) (h2 : atB s 2 = c2') (h : c2' ≠ 123) : Calls Tryd.prog 41 #[.string s] w (Gc (escRes s) w) := by
  have HN : Hid (escRes s = .tuple #[.string ⟨#[]⟩, .int .i64 0, .bool false]) := Lib.hid (by unfold escRes esc; simp [hc, h2, h])
  have A2 : Hid (atB s 2 = c2') := Lib.hid h2
  have z : ((c2' : Int) != 123) = true := by rw [bne_iff_ne]; exact fun e => h (by exact_mod_cast e)
  clear h2 h
  have hmf : ∀ (fn : Fn) (first cap : Array Value) (w : World), (Instr.makeFunc fn first cap).run Tryd.prog w = .ok (.func fn first cap) w := fun _ _ _ _ => rfl
  obtain ⟨X, hX⟩ : ∃ X, w.alloc (.cells #[.string s] 9) = X := ⟨_, rfl⟩
  have hcX : Chg Noth w X := by rw [← hX]; exact chg_alloc (Chg.refl _ _) _
  have hcell : X.cell? ⟨w.heap.size, 0, none⟩ = some (.string s) := by rw [← hX]; simp [go_sem]
  have jb : Old w.heap.size X := ⟨by rw [← hX]; simp⟩
  have h1 := atc_v s w.heap.size 1 X hcell jb
  rw [hc, show ((117 : Nat) : Int) = 117 from rfl, show ((1 : Nat) : Int) = 1 from rfl] at h1
  clear hc
  go_enter Tryd.func41, Tryd.ntmps41
  go_wp2
  refine wp_scope_chain 2 fun C hC => ?_
  have HC := Lib.hid hC
  clear hC
  try rw [hX]
  have HX := Lib.hid hX
  clear hX
  go_wp2_with fail
  go_at_call 56
  refine h1.mono ?_
  rintro e X1 ⟨rfl, c1⟩
  obtain ⟨q1, j1⟩ := keepc c1 hcell jb
  clear h1
  go_wp2_with fail
  refine wp_goto ?_
  show Exit.chain _ _ _ 2 (.goto 1) _ _
  simp only [Exit.chain]
  refine ⟨_, (congrArg (findLabel · 1) HC.out).trans rfl, ?_⟩
  have a2 := atc_v s w.heap.size 2 X1 q1 j1
  rw [A2.out, show ((2 : Nat) : Int) = 2 from rfl] at a2
  go_wp2_with fail
  go_at_call 56
  refine (a2).mono ?_
  rintro e X2 ⟨rfl, c2⟩
  obtain ⟨q2, j2⟩ := keepc c2 q1 j1
  clear a2
  go_wp2_with fail
  refine wp_goto ?_
  show Exit.chain _ _ _ 1 (.goto 2) _ _
  simp only [Exit.chain]
  refine ⟨_, (congrArg (findLabel · 2) HC.out).trans rfl, ?_⟩
  go_wp2
  rw [chain_ret]
  refine bodyPost_ret (v := .tuple #[.string ⟨#[]⟩, .int .i64 0, .bool false]) (by simp [results, Tryd.results41, go_sem, *]) rfl ?_
  rw [HN.out]
  exact ⟨rfl, ((hcX.trans c1 (fun _ _ e => e)).trans c2 (fun _ _ e => e))⟩
theorem esc_u2 (s : ByteArray) (w : World) (hc : atB s 1 = 117) (h2 : atB s 2 = 123) (c3' : Nat) (v3 : Int) (h3 : atB s 3 = c3') (e3 : hexV c3' = v3) (n3 : v3 < 0) : Calls Tryd.prog 41 #[.string s] w (Gc (escRes s) w) := by
  have HN : Hid (escRes s = .tuple #[.string ⟨#[]⟩, .int .i64 0, .bool false]) := Lib.hid (by
    have e : hexF s 6 3 0 = (0, 3) := by simp only [hexF]; rw [h3, e3, if_neg (by omega)]
    unfold escRes esc
    simp [hc, h2, e])
  have x3 : decide (0 ≤ v3) = false := decide_eq_false (by omega)
  have A2 : Hid (atB s 2 = 123) := Lib.hid h2
  have A3 : Hid (atB s 3 = c3') := Lib.hid h3
  have V3 : Hid (hexV c3' = v3) := Lib.hid e3
  have l3 : Hid (c3' < 256) := Lib.hid (by rw [← h3]; exact atB_lt s 3)
  clear h2 h3 e3 n3
  have hmf : ∀ (fn : Fn) (first cap : Array Value) (w : World), (Instr.makeFunc fn first cap).run Tryd.prog w = .ok (.func fn first cap) w := fun _ _ _ _ => rfl
  obtain ⟨X, hX⟩ : ∃ X, w.alloc (.cells #[.string s] 9) = X := ⟨_, rfl⟩
  have hcX : Chg Noth w X := by rw [← hX]; exact chg_alloc (Chg.refl _ _) _
  have hcell : X.cell? ⟨w.heap.size, 0, none⟩ = some (.string s) := by rw [← hX]; simp [go_sem]
  have jb : Old w.heap.size X := ⟨by rw [← hX]; simp⟩
  have h1 := atc_v s w.heap.size 1 X hcell jb
  rw [hc, show ((117 : Nat) : Int) = 117 from rfl, show ((1 : Nat) : Int) = 1 from rfl] at h1
  clear hc
  go_enter Tryd.func41, Tryd.ntmps41
  go_wp2
  refine wp_scope_chain 9 fun C hC => ?_
  have HC := Lib.hid hC
  clear hC
  try rw [hX]
  have HX := Lib.hid hX
  clear hX
  go_wp2_with fail
  go_at_call 56
  refine h1.mono ?_
  rintro e X1 ⟨rfl, c1⟩
  obtain ⟨q1, j1⟩ := keepc c1 hcell jb
  clear h1
  go_wp2_with fail
  refine wp_goto ?_
  show Exit.chain _ _ _ 9 (.goto 1) _ _
  simp only [Exit.chain]
  refine ⟨_, (congrArg (findLabel · 1) HC.out).trans rfl, ?_⟩
  have a2 := atc_v s w.heap.size 2 X1 q1 j1
  rw [A2.out, show ((2 : Nat) : Int) = 2 from rfl, show ((123 : Nat) : Int) = 123 from rfl] at a2
  go_wp2_with fail
  go_at_call 56
  refine (a2).mono ?_
  rintro e X2 ⟨rfl, c2⟩
  obtain ⟨q2, j2⟩ := keepc c2 q1 j1
  clear a2
  go_wp2_with fail
  refine wp_label ?_
  have a3 := atc_v s w.heap.size 3 X2 q2 j2
  rw [A3.out, show ((3 : Nat) : Int) = 3 from rfl] at a3
  go_wp2_with fail
  go_at_call 56
  refine (a3).mono ?_
  rintro e X3 ⟨rfl, c3⟩
  obtain ⟨q3, j3⟩ := keepc c3 q2 j2
  clear a3
  have d4 := digit_v c3' l3.out X3
  rw [V3.out] at d4
  go_wp2_with fail
  go_at_call 57
  refine (d4).mono ?_
  rintro e X4 ⟨rfl, c4⟩
  obtain ⟨q4, j4⟩ := keepc c4 q3 j3
  clear d4
  go_wp2_with fail
  refine wp_goto ?_
  show Exit.chain _ _ _ 8 (.goto 2) _ _
  simp only [Exit.chain]
  refine ⟨_, (congrArg (findLabel · 2) HC.out).trans rfl, ?_⟩
  go_wp2
  rw [chain_ret]
  refine bodyPost_ret (v := .tuple #[.string ⟨#[]⟩, .int .i64 0, .bool false]) (by simp [results, Tryd.results41, go_sem, *]) rfl ?_
  rw [HN.out]
  exact ⟨rfl, ((((hcX.trans c1 (fun _ _ e => e)).trans c2 (fun _ _ e => e)).trans c3 (fun _ _ e => e)).trans c4 (fun _ _ e => e))⟩
end Go.Proofs.YtkamjhhaghkdmaaDoor
