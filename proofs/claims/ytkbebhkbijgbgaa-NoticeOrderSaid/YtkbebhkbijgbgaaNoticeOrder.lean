/- NoticeOrder: the ranks are an order of all notices of one node; Max is commutative, associative, and of one notice alone that one: for every three notices. No condition. -/
import Derived.Test.YtkbebhkbijgbgaaG
import Derived.Test.YtkbebhkbijgbgaaF
namespace Go.Proofs.Ytkbebhkbijgbgaa.NoticeOrder
open Go.ChangeShapes Go.WideShapes Go.ChangeAt Go.RowKit Go.Ear

set_option maxRecDepth 100000 in
theorem lifted (os : Os) (started : os.Started) (H : Type) (enc : TypeId × Value → H) :
    ReturnsInHanded {} Try.checked os 6 .any (Rows.noticeOrderSpec.pre6 enc Try.prog Try.f6 Rows.noticeOrderRow.domain false) (Rows.noticeOrderSpec.post enc Try.prog Try.f6 false true false false) := by
  refine returnsInHanded_of_change (C := Try.checked) own started (by kernel_rfl) Try.func6
    (ChangeSpec.witness6 (enc := enc) (C := Try.checked) false ⟨#[], #[.agg #[.int .i64 0, .int .i64 0, .int .i64 0], .agg #[.int .i64 0, .int .i64 0, .int .i64 0], .agg #[.int .i64 0, .int .i64 0, .int .i64 0]], []⟩ 8 (by kernel_rfl) (by kernel_rfl) (by kernel_rfl) (by kernel_rfl)) ?_
  intro W base args ds gs before hval0 hW _ _
  have hval : ∀ (j : Nat) t v, Try.f6.params[j]? = some t → args[j]? = some v → Value.okWide Try.prog W .any base t v := hval0
  clear hval0
  have hW' := hW
  obtain ⟨p, q, hA0, hV, rfl, _, _⟩ := hW
  have hA : DataW.TrodAll enc Try.prog W 0 (fun _ => true) true Try.f6.params.toList args.toList ds p := hA0
  rw [Try.params6] at hA hval
  obtain ⟨v0, vs0, d0, ds0, p0, q0, hargs, rfl, rfl, h0, r0⟩ := trodAll_cons hA
  obtain ⟨v1, vs1, d1, ds1, p1, q1, rfl, rfl, rfl, h1, r1⟩ := trodAll_cons r0
  obtain ⟨v2, vs2, d2, ds2, p2, q2, rfl, rfl, rfl, h2, r2⟩ := trodAll_cons r1
  obtain ⟨rfl, rfl, rfl⟩ := trodAll_nil r2
  obtain rfl : args = #[v0, v1, v2] := by cases args; simp_all
  obtain ⟨rfl, rfl⟩ := trodVars_none hV
  obtain ⟨o0, t0, k0, rfl⟩ := open_notice (hval 0 23 v0 rfl rfl) h0
  obtain ⟨o1, t1, k1, rfl⟩ := open_notice (hval 1 23 v1 rfl rfl) h1
  obtain ⟨o2, t2, k2, rfl⟩ := open_notice (hval 2 23 v2 rfl rfl) h2
  refine (law_order o0 t0 k0 o1 t1 k1 o2 t2 k2 W).mono fun e W' hg => ?_
  exact law_post laidOut (by kernel_rfl) (by kernel_rfl : Try.f6.resultTypes = #[4]) Try.underlying4 rfl hW' rfl rfl rfl hg

theorem noticeOrder_holds : Rows.NoticeOrderSaid :=
  OpenClaim.holds_of_wide 6 Try.f6 rfl rfl rfl rfl rfl rfl rfl ⟨rfl, rfl, rfl, rfl, rfl⟩ rfl rfl rfl rfl rfl (by kernel_rfl) Try.func6 (by kernel_rfl)
    (of_decide_eq_true (by kernel_rfl)) (by unfold Func.isWrapper; rw [if_neg (of_decide_eq_false (by kernel_rfl))]; exact ⟨rfl, rfl⟩)
    (fun os started H enc _ => lifted os started H enc)
end Go.Proofs.Ytkbebhkbijgbgaa.NoticeOrder
