/- Lists of bytes as an argument. -/
import Derived.Test.YteemkceceaabkaaV
import Derived.Test.YteemkceceaabkaaGo
namespace Go.Proofs.Yteemkceceaabkaa
open Go.ChangeShapes Go.WideShapes Go.ChangeAt Go.RowKit Go.Ear Go.Deep
set_option maxHeartbeats 1000000
set_option maxRecDepth 20000

section
variable {H : Type} {enc : TypeId × Value → H} {W : World}
theorem open_dat {base : Nat} {v : Value} {d : DataW H} {p : List MemPlace} (hv : Value.okWide Try.prog W .any base 22 v) (h : DataW.Trod enc Try.prog W 0 (fun _ => true) true 22 v d p) :
    ∃ A c rows, v = .slice A (List.length rows) c ∧ Dat W A rows := by
  obtain ⟨a0, len, cap, rfl⟩ := okWide_slice Try.underlying22 hv
  obtain ⟨fuel, hf⟩ := h
  rcases open_slice Try.underlying22 hf with ⟨hcs, hx⟩ | ⟨a, len', cap', m, n, D, Pl, hcs, _, hl, _, hm, hx, hi⟩
  · simp [Value.cells] at hcs
    obtain ⟨rfl, rfl, rfl⟩ := hcs
    exact ⟨none, 0, [], rfl, ⟨fun k o h => by simp at h⟩⟩
  · simp [Value.cells] at hcs
    obtain ⟨rfl, rfl, rfl⟩ := hcs
    simp only [if_true] at hm
    subst hm
    rw [(by kernel_rfl : Try.prog.cellsOf 28 = 1)] at hi
    have hex : ∀ i, i < len → ∃ q : List UInt8, ∃ (A : Option Addr) (c : Nat), W.cell? (a.add i) = some (.slice A q.length c) ∧ SL W (.slice A q.length c) q.length 1 (bv q) := by
      intro i hlt
      obtain ⟨cs', hc, ht⟩ := hi i (by omega)
      obtain ⟨A, l, c, rfl, hs⟩ := trod_bytes ht
      obtain ⟨_, _, hcell⟩ := World.cells?_some hc
      refine ⟨l, A, c, ?_, hs⟩
      have := hcell 0 (by omega)
      rw [Go.Deep.add_add] at this
      simpa using this
    obtain ⟨f, hfc⟩ := choose_lt hex
    refine ⟨some a, m, (List.range len).map f, by simp, ⟨fun k o ho => ?_⟩⟩
    have hk : k < len := by
      have := (List.getElem?_eq_some_iff.1 ho).1
      simpa using this
    rw [List.getElem?_map, List.getElem?_range hk] at ho
    simp at ho
    subst ho
    obtain ⟨A, c, hc, hs⟩ := hfc k hk
    obtain ⟨c0, _, h0, _⟩ := hfc 0 (by omega)
    have hpl : W.cell? (a.add 0) = some _ := h0
    obtain ⟨h1, h2⟩ := plain_addr hpl
    obtain ⟨b, off, spot⟩ := a
    simp only at h1 h2
    subst h1
    refine ⟨b, off, A, c, rfl, h2, ?_, hs⟩
    rw [Go.WideShapes.add_plain] at hc
    exact hc
end
end Go.Proofs.Yteemkceceaabkaa
