/- offends' deferred closure: recover. -/
import Derived.Test.YteemkceceaabkaaGreatAw
import Derived.Recover
import Derived.Defers
namespace Go.Proofs.YteemkceceaabkaaGreat
open Go.RowKit Go.Ear
set_option maxHeartbeats 4000000
set_option maxRecDepth 100000
set_option linter.unusedSimpArgs false
set_option linter.unusedVariables false
theorem catch_panicking (b : Nat) (x : Bool) (w : World) (hc : w.cell? ⟨b, 0, none⟩ = some (.bool x)) (hz : w.frozen? ⟨b, 0, none⟩ = false) (hb : b < w.heap.size) :
    CallsD Tryz.prog 133 #[.pointer (some ⟨b, 0, none⟩)] (.panicking gaveUp) w fun e u' w' =>
      e = .returned (.tuple #[]) ∧ u' = .panicking [{ v := .iface 175 (.agg #[]), recovered := true }] ∧ Chg (fun k => k = b) w w' ∧ w'.cell? ⟨b, 0, none⟩ = some (.bool true) := by
  have mb : May b (fun k => k = b) w := ⟨.inl rfl⟩
  have hrep : Array.replicate 13 undef = #[undef, undef, undef, undef, undef, undef, undef, undef, undef, undef, undef, undef, undef] := rfl
  have hta : ∀ W, (Instr.typeAssert (.iface 175 (.agg #[])) 20 175 true).run Tryz.prog W = .ok (.tuple #[.agg #[], .bool true]) W := fun _ => by kernel_rfl
  have jb : Old b w := ⟨hb⟩
  have kb : HasCell w b 0 := ⟨by rw [hc]; rfl⟩
  refine callsD_of_wpS Tryz.func133 rfl fun c₀ cs hu => ?_
  unfold gaveUp at hu
  apply wpS_seq
  apply wpS_region
  simp [wpOpsS, go_sem, recoverD, hu, Tryz.ntmps133, Exit.thenS, hrep]
  refine wpS_of_wp ?_
  go_wp2
  exact ⟨rfl, _, rfl, .tuple #[], by simp [results, Tryz.results133], rfl, rfl, (by repeat (with_reducible first | exact Chg.refl _ _ | refine chg_m ?_ _ | refine chg_g ?_ _ | refine chg_alloc ?_ _ | refine chg_drew ?_ | refine chg_drewN ?_ _ | refine chg_set ?_ _ _ _)), by simp [go_sem]⟩
theorem catch_idle (b : Nat) (w : World) :
    CallsD Tryz.prog 133 #[.pointer (some ⟨b, 0, none⟩)] .returning w fun e u' w' => e = .returned (.tuple #[]) ∧ u' = .returning ∧ Chg Noth w w' := by
  have hrep : Array.replicate 13 undef = #[undef, undef, undef, undef, undef, undef, undef, undef, undef, undef, undef, undef, undef] := rfl
  have hta : ∀ W, (Instr.typeAssert .nilIface 20 175 true).run Tryz.prog W = .ok (.tuple #[.agg #[], .bool false]) W := fun _ => by kernel_rfl
  have hnn : ∀ W, (binOp .neq 20 .nilIface .nilIface).run Tryz.prog W = .ok (.bool false) W := fun _ => by kernel_rfl
  refine callsD_of_wpS Tryz.func133 rfl fun c₀ cs hu => ?_
  apply wpS_seq
  apply wpS_region
  simp [wpOpsS, go_sem, recoverD, hu, Tryz.ntmps133, Exit.thenS, hrep]
  refine wpS_of_wp ?_
  go_wp2
  exact ⟨rfl, .returning, by rw [← hu], .tuple #[], by simp [results, Tryz.results133], rfl, rfl, (by repeat (with_reducible first | exact Chg.refl _ _ | refine chg_m ?_ _ | refine chg_g ?_ _ | refine chg_alloc ?_ _ | refine chg_drew ?_ | refine chg_drewN ?_ _ | refine chg_set ?_ _ _ _))⟩
end Go.Proofs.YteemkceceaabkaaGreat
