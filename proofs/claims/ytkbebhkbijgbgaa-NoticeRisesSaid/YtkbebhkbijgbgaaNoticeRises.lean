/- NoticeRises: Rising answers what the document's reference answers, for every number and every list of notices, and the list stays. No condition. -/
import Derived.Test.YtkbebhkbijgbgaaG
import Derived.Test.YtkbebhkbijgbgaaT
import Derived.SizedLaws
import Derived.Deep.Slices
namespace Go.Proofs.Ytkbebhkbijgbgaa.NoticeRises
open Go.ChangeShapes Go.WideShapes Go.ChangeAt Go.RowKit Go.Ear Go.Deep

section
variable {H : Type} {enc : TypeId × Value → H} {W : World} {base : Nat} {sp : Nat → Bool} {held : Bool}
theorem trod_notice {n : Nat} {cs : List Value} {y : DataW H × List MemPlace} (h : DataW.trod enc Try.prog W base sp held n 23 cs = some y) : ∃ o t k : Int, cs = [.int .i64 o, .int .i64 t, .int .i64 k] := by
  obtain ⟨xs, m, _, _, hlen, hxl, hf⟩ := DataW.trod_struct Try.underlying23 h
  rw [cells23] at hlen
  match cs, hlen with
  | [c0, c1, c2], _ =>
    have hx : xs.length = 3 := hxl
    match xs, hx with
    | [y0, y1, y2], _ =>
      have h0 := hf 0 _ rfl
      have h1 := hf 1 _ rfl
      have h2 := hf 2 _ rfl
      have e3 : Try.prog.cellsOf 3 = 1 := by kernel_rfl
      obtain ⟨a, e0, _, _⟩ := DataW.trod_int Try.underlying3 (by simpa [e3] using h0 : DataW.trod enc Try.prog W base sp held m 3 [c0] = some y0)
      obtain ⟨b, e1, _, _⟩ := DataW.trod_int Try.underlying3 (by simpa [e3] using h1 : DataW.trod enc Try.prog W base sp held m 3 [c1] = some y1)
      obtain ⟨c, e2, _, _⟩ := DataW.trod_int Try.underlying3 (by simpa [e3] using h2 : DataW.trod enc Try.prog W base sp held m 3 [c2] = some y2)
      simp at e0 e1 e2
      subst e0 e1 e2
      exact ⟨a, b, c, rfl⟩

theorem open_notices {v : Value} {d : DataW H} {p : List MemPlace} (hv : Value.okWide Try.prog W .any base 33 v) (h : DataW.Trod enc Try.prog W 0 (fun _ => true) true 33 v d p) :
    ∃ A n c f, v = .slice A n c ∧ NL W A n f ∧ (A = none → n = 0 ∧ c = 0) ∧ ((A = none ∧ d = .nil) ∨ ∃ el spare, d = .slice el spare ∧ el.length = n) := by
  obtain ⟨a0, len, cap, rfl⟩ := okWide_slice Try.underlying33 hv
  obtain ⟨fuel, hf⟩ := h
  rcases open_slice Try.underlying33 hf with ⟨hcs, hx⟩ | ⟨a, len', cap', m, n, D, Pl, hcs, _, hl, _, hm, hx, hi⟩
  · simp [Value.cells] at hcs
    obtain ⟨rfl, rfl, rfl⟩ := hcs
    simp only [Prod.mk.injEq] at hx
    exact ⟨none, 0, 0, fun _ => (0, 0, 0), rfl, fun h => absurd h (by omega), fun _ => ⟨rfl, rfl⟩, .inl ⟨rfl, hx.1⟩⟩
  · simp [Value.cells] at hcs
    obtain ⟨rfl, rfl, rfl⟩ := hcs
    simp only [Prod.mk.injEq] at hx
    simp only [if_true] at hm
    subst hm
    rw [cells23] at hi
    have hex : ∀ i, i < len → ∃ q : Int × Int × Int, W.cell? (a.add (i * 3)) = some (.int .i64 q.1) ∧ W.cell? (a.add (i * 3 + 1)) = some (.int .i64 q.2.1) ∧ W.cell? (a.add (i * 3 + 2)) = some (.int .i64 q.2.2) := by
      intro i hlt
      obtain ⟨cs', hc, ht⟩ := hi i (by omega)
      obtain ⟨o, t, k, rfl⟩ := trod_notice ht
      obtain ⟨_, _, hcell⟩ := World.cells?_some hc
      have c0 := hcell 0 (by omega)
      have c1 := hcell 1 (by omega)
      have c2 := hcell 2 (by omega)
      rw [Go.Deep.add_add] at c0 c1 c2
      exact ⟨(o, t, k), by simpa using c0, by simpa using c1, by simpa using c2⟩
    obtain ⟨f, hfc⟩ := choose_lt hex
    refine ⟨some a, len, _, f, rfl, ?_, fun h => (by cases h), .inr ⟨_, _, hx.1, by simp⟩⟩
    intro hp
    obtain ⟨b, off, spot⟩ := a
    have hspot : spot = none := by simpa [Addr.add] using World.cell?_spot (hfc 0 hp).1
    subst hspot
    have hlt : b < W.heap.size := by
      have := (hfc 0 hp).1
      rcases Nat.lt_or_ge b W.heap.size with h | h
      · exact h
      · simp [World.cell?, Addr.add, Array.getElem?_eq_none h] at this
    refine ⟨b, off, rfl, hlt, fun i hi => ?_⟩
    obtain ⟨c0, c1, c2⟩ := hfc i hi
    simp only [Go.WideShapes.add_plain] at c0 c1 c2
    exact ⟨c0, c1, c2⟩
end

theorem bytes23 : Try.prog.bytesOf 23 = 24 := by kernel_rfl
set_option maxRecDepth 100000 in
theorem lifted (os : Os) (started : os.Started) (H : Type) (enc : TypeId × Value → H) :
    ReturnsInHanded {} Try.checked os 5 .any (Rows.noticeRisesSpec.pre6 enc Try.prog Try.f5 Rows.noticeRisesRow.domain false) (Rows.noticeRisesSpec.post enc Try.prog Try.f5 false true false false) := by
  refine returnsInHanded_of_change_sized (C := Try.checked) own started (by kernel_rfl) Try.func5
    (ChangeSpec.witness6 (enc := enc) (C := Try.checked) false ⟨#[], #[.int .i64 0, .slice none 0 0], []⟩ 8 (by kernel_rfl) (by kernel_rfl) (by kernel_rfl) (by kernel_rfl)) ?_
  intro W base args ds gs before hval0 hW _ hsz0 _
  have hval : ∀ (j : Nat) t v, Try.f5.params[j]? = some t → args[j]? = some v → Value.okWide Try.prog W .any base t v := hval0
  have hsz : (DataW.weightsEach Try.prog (Try.f5.params.toList ++ Rows.noticeRisesSpec.plain.varTypes Try.prog) (ds ++ gs)).all (· ≤ reachBytes) = true := hsz0
  clear hval0 hsz0
  have hW' := hW
  obtain ⟨p, q, hA0, hV, rfl, _, _⟩ := hW
  have hA : DataW.TrodAll enc Try.prog W 0 (fun _ => true) true Try.f5.params.toList args.toList ds p := hA0
  rw [Try.params5] at hA hval hsz
  obtain ⟨v0, vs0, d0, ds0, p0, q0, hargs, rfl, rfl, h0, r0⟩ := trodAll_cons hA
  obtain ⟨v1, vs1, d1, ds1, p1, q1, rfl, rfl, rfl, h1, r1⟩ := trodAll_cons r0
  obtain ⟨rfl, rfl, rfl⟩ := trodAll_nil r1
  obtain rfl : args = #[v0, v1] := by cases args; simp_all
  obtain ⟨rfl, rfl⟩ := trodVars_none hV
  obtain ⟨a0, rfl, _, _, wa0⟩ := open_int Try.underlying3 (hval 0 3 v0 rfl rfl) h0
  obtain ⟨A, n, c, f, rfl, hN, hn, hd⟩ := open_notices (hval 1 33 v1 rfl rfl) h1
  have hsize : n * 24 ≤ 140737488351232 := by
    rcases hd with ⟨hA, _⟩ | ⟨el, spare, rfl, hl⟩
    · obtain ⟨rfl, _⟩ := hn hA
      omega
    · have := sized_slice hsz (j := 1) (t := 33) (e := 23) rfl rfl Try.underlying33
      rw [bytes23] at this
      simp only [reachBytes] at this
      omega
  refine (law_rises a0 A n c f W hN hn hsize).mono fun e W' hg => ?_
  exact law_post laidOut (by kernel_rfl) (by kernel_rfl : Try.f5.resultTypes = #[4]) Try.underlying4 rfl hW' rfl rfl rfl hg

theorem noticeRises_holds : Rows.NoticeRisesSaid :=
  OpenClaim.holds_of_wide 5 Try.f5 rfl rfl rfl rfl rfl rfl rfl ⟨rfl, rfl, rfl, rfl, rfl⟩ rfl rfl rfl rfl rfl (by kernel_rfl) Try.func5 (by kernel_rfl)
    (of_decide_eq_true (by kernel_rfl)) (by unfold Func.isWrapper; rw [if_neg (of_decide_eq_false (by kernel_rfl))]; exact ⟨rfl, rfl⟩)
    (fun os started H enc _ => lifted os started H enc)
end Go.Proofs.Ytkbebhkbijgbgaa.NoticeRises
