/- A script as an argument. -/
import Derived.Test.YteemkceceaabkaaGreatBp
import Derived.Test.YteemkceceaabkaaGreatL
import Derived.SizedLaws
import Derived.Deep.Slices
namespace Go.Proofs.YteemkceceaabkaaGreat
open Go.ChangeShapes Go.WideShapes Go.ChangeAt Go.RowKit Go.Ear Go.Deep
set_option maxHeartbeats 1000000
set_option maxRecDepth 20000

theorem own : ownKnob Tryz.prog.godebug = none := by kernel_rfl
theorem laidOut : laidOutB Tryz.prog = true := by kernel_rfl
section
variable {H : Type} {enc : TypeId × Value → H} {W : World} {base : Nat} {sp : Nat → Bool} {held : Bool}
theorem plain_addr {a : Addr} {v : Value} (h : W.cell? (a.add 0) = some v) : a.spot = none ∧ a.block < W.heap.size := by
  have e : a.add 0 = a := by simp [Addr.add]
  rw [e] at h
  refine ⟨World.cell?_spot h, ?_⟩
  rcases Nat.lt_or_ge a.block W.heap.size with h' | h'
  · exact h'
  · exfalso
    simp [World.cell?, Array.getElem?_eq_none h'] at h
theorem byte_of {k : IntKind} {n : Int} (hk : k = .u8) (h : (Lit.int k n).wf = true) : 0 ≤ n ∧ n < 256 := by
  subst hk
  simp [Lit.wf, IntKind.min, IntKind.max, IntKind.bits, IntKind.signed] at h
  omega
theorem trod_bytes {n : Nat} {cs : List Value} {y : DataW H × List MemPlace} (h : DataW.trod enc Tryz.prog W base (fun _ => true) held n 68 cs = some y) :
    ∃ (A : Option Addr) (l : List UInt8) (c : Nat), cs = [.slice A l.length c] ∧ SL W (.slice A l.length c) l.length 1 (bv l) := by
  rcases open_slice1 Tryz.underlying68 (by kernel_rfl : Tryz.prog.cellsOf 5 = 1) h with ⟨rfl, _⟩ | ⟨a, len, cap, m, n', V, D, Pl, rfl, _, hl, _, hm, _, hV⟩
  · exact ⟨none, [], 0, rfl, rfl, none, 0, rfl, fun _ => ⟨rfl, rfl⟩, Nat.le_refl _, fun h => absurd h (by simp)⟩
  · simp only [if_true] at hm
    subst hm
    have hb : ∀ i, i < m → ∃ u : UInt8, W.cell? (a.add i) = some (.int .u8 (u.toNat : Int)) := by
      intro i hi
      obtain ⟨h1, h2⟩ := hV i hi
      obtain ⟨x, e, _, hw⟩ := DataW.trod_int Tryz.underlying5 h2
      have hx := byte_of rfl hw
      simp at e
      rw [e] at h1
      refine ⟨UInt8.ofNat x.toNat, ?_⟩
      rw [h1]
      have : (UInt8.ofNat x.toNat).toNat = x.toNat := by simp; omega
      rw [this]
      congr 2
      omega
    obtain ⟨f, hf⟩ := choose_lt hb
    refine ⟨some a, (List.range len).map f, m, by simp, by simp, some a, m, by simp, fun h => (by cases h), by simpa using hl, fun hp => ?_⟩
    simp only [List.length_map, List.length_range] at hp
    obtain ⟨h1, h2⟩ := plain_addr (hf 0 (by omega))
    obtain ⟨b, off, spot⟩ := a
    simp only at h1 h2
    subst h1
    refine ⟨b, off, rfl, h2, fun i u hu => ?_⟩
    simp only [bv, List.map_map, List.getElem?_map] at hu
    have hi : i < len := by
      rcases Nat.lt_or_ge i len with h | h
      · exact h
      · rw [List.getElem?_eq_none (by simpa using h)] at hu; simp at hu
    rw [List.getElem?_range hi] at hu
    simp at hu
    rw [← hu, ← Go.WideShapes.add_plain]
    exact hf i (by omega)

theorem trod_op {n : Nat} {cs : List Value} {y : DataW H × List MemPlace} (h : DataW.trod enc Tryz.prog W base (fun _ => true) held n 70 cs = some y) :
    ∃ (o : OpS) (A : Option Addr) (c : Nat), cs = [i64 o.kind, i64 o.who, i64 o.i, i64 o.j, i64 o.k, .slice A o.data.length c] ∧ SL W (.slice A o.data.length c) o.data.length 1 (bv o.data) ∧ (-9223372036854775808 ≤ o.j ∧ o.j ≤ 9223372036854775807) := by
  obtain ⟨xs, m, _, _, hlen, hxl, hf⟩ := DataW.trod_struct Tryz.underlying70 h
  rw [(by kernel_rfl : Tryz.prog.cellsOf 70 = 6)] at hlen
  match cs, hlen with
  | [c0, c1, c2, c3, c4, c5], _ =>
    have hx : xs.length = 6 := hxl
    match xs, hx with
    | [y0, y1, y2, y3, y4, y5], _ =>
      have h0 := hf 0 _ rfl
      have h1 := hf 1 _ rfl
      have h2 := hf 2 _ rfl
      have h3 := hf 3 _ rfl
      have h4 := hf 4 _ rfl
      have h5 := hf 5 _ rfl
      have e3 : Tryz.prog.cellsOf 3 = 1 := by kernel_rfl
      have e28 : Tryz.prog.cellsOf 68 = 1 := by kernel_rfl
      obtain ⟨x0, e0, _, _⟩ := DataW.trod_int Tryz.underlying3 (by simpa [e3] using h0 : DataW.trod enc Tryz.prog W base _ held m 3 [c0] = some y0)
      obtain ⟨x1, e1, _, _⟩ := DataW.trod_int Tryz.underlying3 (by simpa [e3] using h1 : DataW.trod enc Tryz.prog W base _ held m 3 [c1] = some y1)
      obtain ⟨x2, e2, _, _⟩ := DataW.trod_int Tryz.underlying3 (by simpa [e3] using h2 : DataW.trod enc Tryz.prog W base _ held m 3 [c2] = some y2)
      obtain ⟨x3, e3', _, w3⟩ := DataW.trod_int Tryz.underlying3 (by simpa [e3] using h3 : DataW.trod enc Tryz.prog W base _ held m 3 [c3] = some y3)
      obtain ⟨x4, e4, _, _⟩ := DataW.trod_int Tryz.underlying3 (by simpa [e3] using h4 : DataW.trod enc Tryz.prog W base _ held m 3 [c4] = some y4)
      obtain ⟨A, l, c, e5, hs⟩ := trod_bytes (by simpa [e28] using h5 : DataW.trod enc Tryz.prog W base _ held m 68 [c5] = some y5)
      simp at e0 e1 e2 e3' e4 e5
      subst e0 e1 e2 e3' e4 e5
      refine ⟨⟨x0, x1, x2, x3, x4, l⟩, A, c, rfl, hs, ?_⟩
      simp [Lit.wf, IntKind.min, IntKind.max, IntKind.bits, IntKind.signed] at w3
      omega

instance : Inhabited OpS := ⟨⟨0, 0, 0, 0, 0, []⟩⟩
theorem open_ops {base : Nat} {v : Value} {d : DataW H} {p : List MemPlace} (hv : Value.okWide Tryz.prog W .any base 23 v) (h : DataW.Trod enc Tryz.prog W 0 (fun _ => true) true 23 v d p) :
    ∃ A c ops, v = .slice A (List.length ops) c ∧ Scr W A ops := by
  obtain ⟨a0, len, cap, rfl⟩ := okWide_slice Tryz.underlying23 hv
  obtain ⟨fuel, hf⟩ := h
  rcases open_slice Tryz.underlying23 hf with ⟨hcs, hx⟩ | ⟨a, len', cap', m, n, D, Pl, hcs, _, hl, _, hm, hx, hi⟩
  · simp [Value.cells] at hcs
    obtain ⟨rfl, rfl, rfl⟩ := hcs
    exact ⟨none, 0, [], rfl, ⟨fun k o h => by simp at h, fun o h => by simp at h⟩⟩
  · simp [Value.cells] at hcs
    obtain ⟨rfl, rfl, rfl⟩ := hcs
    simp only [if_true] at hm
    subst hm
    rw [(by kernel_rfl : Tryz.prog.cellsOf 70 = 6)] at hi
    have hex : ∀ i, i < len → ∃ q : OpS, ∃ (A : Option Addr) (c : Nat), (∀ j u, [i64 q.kind, i64 q.who, i64 q.i, i64 q.j, i64 q.k, .slice A q.data.length c][j]? = some u → W.cell? (a.add (i * 6 + j)) = some u) ∧ SL W (.slice A q.data.length c) q.data.length 1 (bv q.data) ∧
        (-9223372036854775808 ≤ q.j ∧ q.j ≤ 9223372036854775807) := by
      intro i hlt
      obtain ⟨cs', hc, ht⟩ := hi i (by omega)
      obtain ⟨o, A, c, rfl, hs, hr⟩ := trod_op ht
      obtain ⟨_, _, hcell⟩ := World.cells?_some hc
      refine ⟨o, A, c, fun j u hu => ?_, hs, hr⟩
      have hj : j < 6 := by have := (List.getElem?_eq_some_iff.1 hu).1; simpa using this
      have := hcell j hj
      rw [Go.Deep.add_add] at this
      rw [this]
      exact hu
    obtain ⟨f, hfc⟩ := choose_lt hex
    refine ⟨some a, m, (List.range len).map f, by simp, ⟨fun k o ho => ?_, fun o ho => ?_⟩⟩
    · have hk : k < len := by
        have := (List.getElem?_eq_some_iff.1 ho).1
        simpa using this
      rw [List.getElem?_map, List.getElem?_range hk] at ho
      simp at ho
      subst ho
      obtain ⟨A, c, hcell, hs, _⟩ := hfc k hk
      obtain ⟨_, _, hcell0, _, _⟩ := hfc 0 (by omega)
      obtain ⟨h1, h2⟩ := plain_addr (by simpa using hcell0 0 _ rfl)
      obtain ⟨b, off, spot⟩ := a
      simp only at h1 h2
      subst h1
      simp only [Go.WideShapes.add_plain] at hcell
      exact ⟨b, off, A, c, rfl, h2, hcell 0 _ rfl, hcell 1 _ rfl, hcell 2 _ rfl, hcell 3 _ rfl, hcell 4 _ rfl, hcell 5 _ rfl, hs⟩
    · simp at ho
      obtain ⟨k, hk, rfl⟩ := ho
      obtain ⟨_, _, _, _, hr⟩ := hfc k hk
      exact hr
end
end Go.Proofs.YteemkceceaabkaaGreat
