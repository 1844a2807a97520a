/- Events as an argument. -/
import Derived.Test.YteemkceceaabkaaGreatAg0
import Derived.Test.YteemkceceaabkaaGreatL
import Derived.SizedLaws
import Derived.Deep.Slices
import Derived.Laws.IdiomArrays
namespace Go.Proofs.YteemkceceaabkaaGreat
open Go.ChangeShapes Go.WideShapes Go.ChangeAt Go.RowKit Go.Ear Go.Deep
set_option maxHeartbeats 4000000
set_option maxRecDepth 100000
set_option linter.unusedSimpArgs false
set_option linter.unusedVariables false

theorem own : ownKnob Tryz.prog.godebug = none := by kernel_rfl
theorem laidOut : laidOutB Tryz.prog = true := by kernel_rfl
theorem cells3 : Tryz.prog.cellsOf 3 = 1 := by kernel_rfl
theorem cellsSet : Tryz.prog.cellsOf 76 = 4 := by kernel_rfl
theorem cellsEv : Tryz.prog.cellsOf 78 = 15 := by kernel_rfl
section
variable {H : Type} {enc : TypeId × Value → H} {W : World} {base : Nat} {sp : Nat → Bool} {held : Bool}
theorem plain_addr {a : Addr} {v : Value} (h : W.cell? (a.add 0) = some v) : a.spot = none ∧ a.block < W.heap.size := by
  have e : a.add 0 = a := by simp [Addr.add]
  rw [e] at h
  refine ⟨World.cell?_spot h, ?_⟩
  rcases Nat.lt_or_ge a.block W.heap.size with h' | h'
  · exact h'
  · exfalso
    simp [World.cell?, Array.getElem?_eq_none h'] at h
theorem trod_word {n : Nat} {c : Value} {y : DataW H × List MemPlace} (h : DataW.trod enc Tryz.prog W base (fun _ => true) held n 74 [c] = some y) :
    ∃ k : Nat, c = u32v k ∧ k < 4294967296 := by
  obtain ⟨x, e, _, hw⟩ := DataW.trod_int Tryz.underlying74 h
  simp at e
  simp [Lit.wf, IntKind.min, IntKind.max, IntKind.bits, IntKind.signed] at hw
  refine ⟨x.toNat, ?_, by omega⟩
  rw [e]
  congr 1
  omega
theorem trod_set {n : Nat} {c0 c1 c2 c3 : Value} {y : DataW H × List MemPlace} (h : DataW.trod enc Tryz.prog W base (fun _ => true) held n 76 [c0, c1, c2, c3] = some y) :
    ∃ s : St, s.ok ∧ c0 = u32v s.a ∧ c1 = u32v s.b ∧ c2 = u32v s.c ∧ c3 = u32v s.d := by
  obtain ⟨y0, y1, y2, y3, m, _, h0, h1, h2, h3⟩ := trod_array4 Tryz.underlying76 cellsU32 h
  obtain ⟨a, ha, wa⟩ := trod_word h0
  obtain ⟨b, hb, wb⟩ := trod_word h1
  obtain ⟨c, hc, wc⟩ := trod_word h2
  obtain ⟨d, hd, wd⟩ := trod_word h3
  exact ⟨⟨a, b, c, d⟩, ⟨wa, wb, wc, wd⟩, ha, hb, hc, hd⟩
theorem trod_ev {n : Nat} {cs : List Value} {y : DataW H × List MemPlace} (h : DataW.trod enc Tryz.prog W base (fun _ => true) held n 78 cs = some y) :
    ∃ e : Ev, cs = e.cells ∧ Ev.ok e := by
  obtain ⟨xs, m, _, _, hlen, hxl, hf⟩ := DataW.trod_struct Tryz.underlying78 h
  rw [cellsEv] at hlen
  match cs, hlen with
  | [c0, c1, c2, c3, c4, c5, c6, d0, d1, d2, d3, e0, e1, e2, e3], _ =>
    have hx : xs.length = 9 := hxl
    match xs, hx with
    | [y0, y1, y2, y3, y4, y5, y6, y7, y8], _ =>
      have h0 := hf 0 _ rfl
      have h1 := hf 1 _ rfl
      have h2 := hf 2 _ rfl
      have h3 := hf 3 _ rfl
      have h4 := hf 4 _ rfl
      have h5 := hf 5 _ rfl
      have h6 := hf 6 _ rfl
      have h7 := hf 7 _ rfl
      have h8 := hf 8 _ rfl
      obtain ⟨x0, p0, _, _⟩ := DataW.trod_int Tryz.underlying3 (by simpa [cells3] using h0 : DataW.trod enc Tryz.prog W base _ held m 3 [c0] = some y0)
      obtain ⟨x1, p1, _, _⟩ := DataW.trod_int Tryz.underlying3 (by simpa [cells3] using h1 : DataW.trod enc Tryz.prog W base _ held m 3 [c1] = some y1)
      obtain ⟨x2, p2, _, _⟩ := DataW.trod_int Tryz.underlying3 (by simpa [cells3] using h2 : DataW.trod enc Tryz.prog W base _ held m 3 [c2] = some y2)
      obtain ⟨x3, p3, _, _⟩ := DataW.trod_int Tryz.underlying3 (by simpa [cells3] using h3 : DataW.trod enc Tryz.prog W base _ held m 3 [c3] = some y3)
      obtain ⟨x4, p4, _, _⟩ := DataW.trod_int Tryz.underlying3 (by simpa [cells3] using h4 : DataW.trod enc Tryz.prog W base _ held m 3 [c4] = some y4)
      obtain ⟨x5, p5, _, _⟩ := DataW.trod_int Tryz.underlying3 (by simpa [cells3] using h5 : DataW.trod enc Tryz.prog W base _ held m 3 [c5] = some y5)
      obtain ⟨x6, p6, _, _⟩ := DataW.trod_int Tryz.underlying3 (by simpa [cells3] using h6 : DataW.trod enc Tryz.prog W base _ held m 3 [c6] = some y6)
      obtain ⟨s, hs, s0, s1, s2, s3⟩ := trod_set (by simpa [cells3, cellsSet] using h7 : DataW.trod enc Tryz.prog W base _ held m 76 [d0, d1, d2, d3] = some y7)
      obtain ⟨t, ht, t0, t1, t2, t3⟩ := trod_set (by simpa [cells3, cellsSet] using h8 : DataW.trod enc Tryz.prog W base _ held m 76 [e0, e1, e2, e3] = some y8)
      simp at p0 p1 p2 p3 p4 p5 p6
      subst p0 p1 p2 p3 p4 p5 p6 s0 s1 s2 s3 t0 t1 t2 t3
      exact ⟨⟨x0, x1, x2, x3, x4, x5, x6, s, t⟩, rfl, hs, ht⟩
theorem ecells_back (l : List Ev) {i : Nat} {u : Value} (h : (ecells l)[i]? = some u) : ∃ e : Ev, l[i / 15]? = some e ∧ e.cells[i % 15]? = some u := by
  have hi : i < l.length * 15 := by
    have := (List.getElem?_eq_some_iff.1 h).1
    rw [ecells_len] at this
    exact this
  have hk : i / 15 < l.length := by omega
  refine ⟨l[i / 15], List.getElem?_eq_getElem hk, ?_⟩
  have := ecells_get l (i / 15) (i % 15) _ (List.getElem?_eq_getElem hk) (by omega)
  rw [← this, show i / 15 * 15 + i % 15 = i by omega]
  exact h
theorem open_events {base : Nat} {v : Value} {d : DataW H} {p : List MemPlace} (hv : Value.okWide Tryz.prog W .any base 26 v) (h : DataW.Trod enc Tryz.prog W 0 (fun _ => true) true 26 v d p) :
    ∃ (A : Option Addr) (c : Nat) (l : List Ev), v = .slice A (List.length l) c ∧ EvsAt W A c l := by
  obtain ⟨a0, len, cap, rfl⟩ := okWide_slice Tryz.underlying26 hv
  obtain ⟨fuel, hf⟩ := h
  rcases open_slice Tryz.underlying26 hf with ⟨hcs, hx⟩ | ⟨a, len', cap', m, n, D, Pl, hcs, _, hl, _, hm, hx, hi⟩
  · simp [Value.cells] at hcs
    obtain ⟨rfl, rfl, rfl⟩ := hcs
    exact ⟨none, 0, [], rfl, ⟨rfl, none, 0, rfl, fun _ => ⟨rfl, rfl⟩, Nat.le_refl _, fun h => absurd h (by simp)⟩, fun e he => by cases he⟩
  · simp [Value.cells] at hcs
    obtain ⟨rfl, rfl, rfl⟩ := hcs
    simp only [if_true] at hm
    subst hm
    rw [cellsEv] at hi
    have hex : ∀ i, i < len → ∃ q : Ev, Ev.ok q ∧ ∀ j u, q.cells[j]? = some u → W.cell? (a.add (i * 15 + j)) = some u := by
      intro i hlt
      obtain ⟨cs', hc, ht⟩ := hi i (by omega)
      obtain ⟨q, rfl, hq⟩ := trod_ev ht
      obtain ⟨_, _, hcell⟩ := World.cells?_some hc
      refine ⟨q, hq, fun j u hu => ?_⟩
      have hj : j < 15 := by have := (List.getElem?_eq_some_iff.1 hu).1; simpa using this
      have := hcell j hj
      rw [Go.Deep.add_add] at this
      rw [this]
      exact hu
    obtain ⟨f, hfc⟩ := choose_lt hex
    refine ⟨some a, m, (List.range len).map f, by simp, ⟨ecells_len _, some a, m, by simp, fun h => (by cases h), by simpa using hl, fun hp => ?_⟩, fun e he => ?_⟩
    · simp only [List.length_map, List.length_range] at hp
      obtain ⟨h1, h2⟩ := plain_addr (by simpa using (hfc 0 (by omega)).2 0 _ rfl)
      obtain ⟨b, off, spot⟩ := a
      simp only at h1 h2
      subst h1
      refine ⟨b, off, rfl, h2, fun i u hu => ?_⟩
      obtain ⟨e, he, hu'⟩ := ecells_back _ hu
      have hk : i / 15 < len := by
        have := (List.getElem?_eq_some_iff.1 he).1
        simpa using this
      rw [List.getElem?_map, List.getElem?_range hk] at he
      simp at he
      subst he
      have := (hfc (i / 15) hk).2 (i % 15) u hu'
      simp only [Go.WideShapes.add_plain, show i / 15 * 15 + i % 15 = i by omega] at this
      exact this
    · simp at he
      obtain ⟨k, hk, rfl⟩ := he
      exact (hfc k hk).1
end
end Go.Proofs.YteemkceceaabkaaGreat
