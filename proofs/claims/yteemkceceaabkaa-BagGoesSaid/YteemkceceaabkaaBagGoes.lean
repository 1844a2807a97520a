/- BagGoes: All goes through the datagrams as they were at the call, as far as it is asked, also while the bag is turned: the law returns true for all lists of bytes and every number, and nothing that was there is changed. No condition. -/
import Derived.Test.YteemkceceaabkaaVd
namespace Go.Proofs.Yteemkceceaabkaa.BagGoes
open Go.ChangeShapes Go.WideShapes Go.ChangeAt Go.RowKit Go.Ear Go.Deep

set_option maxRecDepth 100000 in
theorem lifted (os : Os) (started : os.Started) (H : Type) (enc : TypeId × Value → H) :
    ReturnsInHanded {} Try.checked os 3 .any (Rows.bagGoesSpec.pre6 enc Try.prog Try.f3 Rows.bagGoesRow.domain false) (Rows.bagGoesSpec.post enc Try.prog Try.f3 false true false false) := by
  refine returnsInHanded_of_change_sized (C := Try.checked) own started (by kernel_rfl) Try.func3
    (ChangeSpec.witness6 (enc := enc) (C := Try.checked) false ⟨#[], #[.slice none 0 0, .int .i64 0], []⟩ 8 (by kernel_rfl) (by kernel_rfl) (by kernel_rfl) (by kernel_rfl)) ?_
  intro W base args ds gs before hval0 hW _ hsz0 _
  have hval : ∀ (j : Nat) t v, Try.f3.params[j]? = some t → args[j]? = some v → Value.okWide Try.prog W .any base t v := hval0
  clear hval0 hsz0
  have hW' := hW
  obtain ⟨p, q, hA0, hV, rfl, _, _⟩ := hW
  have hA : DataW.TrodAll enc Try.prog W 0 (fun _ => true) true Try.f3.params.toList args.toList ds p := hA0
  rw [Try.params3] at hA hval
  obtain ⟨v0, vs0, d0, ds0, p0, q0, hargs, rfl, rfl, h0, r0⟩ := trodAll_cons hA
  obtain ⟨v1, vs1, d1, ds1, p1, q1, rfl, rfl, rfl, h1, r1⟩ := trodAll_cons r0
  obtain ⟨rfl, rfl, rfl⟩ := trodAll_nil r1
  obtain rfl : args = #[v0, v1] := by cases args; simp_all
  obtain ⟨rfl, rfl⟩ := trodVars_none hV
  obtain ⟨A0, c0, l0, rfl, hS0⟩ := open_dat (hval 0 22 v0 rfl rfl) h0
  obtain ⟨a1, rfl, _, _, wa1⟩ := open_int Try.underlying3 (hval 1 3 v1 rfl rfl) h1
  refine (goes_any l0 A0 c0 a1 W hS0).mono fun e W' hg => ?_
  exact law_post laidOut (by kernel_rfl) (by kernel_rfl : Try.f3.resultTypes = #[4]) Try.underlying4 rfl hW' rfl rfl rfl hg

theorem bagGoes_holds : Rows.BagGoesSaid :=
  OpenClaim.holds_of_wide 3 Try.f3 rfl rfl rfl rfl rfl rfl rfl ⟨rfl, rfl, rfl, rfl, rfl⟩ rfl rfl rfl rfl rfl (by kernel_rfl) Try.func3 (by kernel_rfl)
    (of_decide_eq_true (by kernel_rfl)) (by unfold Func.isWrapper; rw [if_neg (of_decide_eq_false (by kernel_rfl))]; exact ⟨rfl, rfl⟩)
    (fun os started H enc _ => lifted os started H enc)
end Go.Proofs.Yteemkceceaabkaa.BagGoes
