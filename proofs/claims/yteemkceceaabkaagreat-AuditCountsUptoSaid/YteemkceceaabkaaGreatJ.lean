/- A script of calls on a bag: run, light. -/
import Derived.Test.YteemkceceaabkaaGreatI
import Derived.LoopTactic
set_option linter.unusedSimpArgs false
set_option linter.unusedVariables false
namespace Go.Proofs.YteemkceceaabkaaGreat
open Go.RowKit Go.Ear
set_option maxHeartbeats 1000000
set_option maxRecDepth 20000

/-- Something that is done to a bag. -/
structure OpS where
  kind : Int
  who : Int
  i : Int
  j : Int
  k : Int
  data : List UInt8

/-- A script in memory. -/
structure Scr (w : World) (A : Option Addr) (ops : List OpS) : Prop where
  cells : ∀ k o, ops[k]? = some o → ∃ b off D c, A = some ⟨b, off, none⟩ ∧ b < w.heap.size ∧ w.cell? ⟨b, off + k * 6, none⟩ = some (i64 o.kind) ∧ w.cell? ⟨b, off + k * 6 + 1, none⟩ = some (i64 o.who) ∧ w.cell? ⟨b, off + k * 6 + 2, none⟩ = some (i64 o.i) ∧
    w.cell? ⟨b, off + k * 6 + 3, none⟩ = some (i64 o.j) ∧ w.cell? ⟨b, off + k * 6 + 4, none⟩ = some (i64 o.k) ∧ w.cell? ⟨b, off + k * 6 + 5, none⟩ = some (.slice D o.data.length c) ∧ SL w (.slice D o.data.length c) o.data.length 1 (bv o.data)
  range : ∀ o ∈ ops, -9223372036854775808 ≤ o.j ∧ o.j ≤ 9223372036854775807

/-- One call. -/
def stepS (S : BagS × Nat × Nat) (o : OpS) : BagS × Nat × Nat :=
  if o.kind = 1 then ((sendS S.1 o.i o.j o.data).1, if (sendS S.1 o.i o.j o.data).2.2 = 0 then S.2.1 + 1 else S.2.1, S.2.2)
  else if o.kind = 3 then (if o.i < 0 ∨ (S.1.l.length : Int) ≤ o.i then S else ({ S.1 with l := S.1.l.eraseIdx o.i.toNat }, S.2.1, S.2.2 + 1))
  else if o.kind = 4 then ((doubleS S.1 o.i).1, if (doubleS S.1 o.i).2.2 = 0 then S.2.1 + 1 else S.2.1, S.2.2)
  else if o.kind = 5 then ((moveS S.1 o.i o.j).1, S.2.1, S.2.2)
  else if o.kind = 6 then ((spoilS S.1 o.i o.j o.k).1, S.2.1, S.2.2)
  else S
def runS (B : BagS) (ops : List OpS) : BagS × Nat × Nat := ops.foldl stepS (B, 0, 0)

theorem putS_last (B : BagS) (fr to : Int) (l : List UInt8) : B.last ≤ (putS B fr to l).1.last ∧ (putS B fr to l).1.last ≤ B.last + 1 := by
  unfold putS
  split
  · simp; omega
  · simp; omega
theorem stepS_bounds (S : BagS × Nat × Nat) (o : OpS) : (stepS S o).1.last ≤ S.1.last + 1 ∧ (stepS S o).2.1 ≤ S.2.1 + 1 ∧ (stepS S o).2.2 ≤ S.2.2 + 1 := by
  have hp := putS_last S.1
  unfold stepS
  split
  · refine ⟨?_, by simp only; split <;> omega, by simp⟩
    simp only [sendS]
    split
    · simp; omega
    · exact (hp _ _ _).2
  split
  · split <;> simp <;> omega
  split
  · refine ⟨?_, by simp only; split <;> omega, by simp⟩
    simp only [doubleS]
    split
    · simp; omega
    · split
      · simp; omega
      · exact (hp _ _ _).2
  split
  · refine ⟨?_, by simp, by simp⟩
    simp only [moveS]
    split
    · simp; omega
    · split <;> simp <;> omega
  split
  · refine ⟨?_, by simp, by simp⟩
    simp only [spoilS]
    split
    · simp; omega
    · split
      · simp; omega
      · split <;> simp <;> omega
  · simp; omega
theorem fold_bounds (S : BagS × Nat × Nat) (ops : List OpS) : (ops.foldl stepS S).1.last ≤ S.1.last + ops.length ∧ (ops.foldl stepS S).2.1 ≤ S.2.1 + ops.length ∧ (ops.foldl stepS S).2.2 ≤ S.2.2 + ops.length := by
  induction ops generalizing S with
  | nil => simp
  | cons o r ih =>
    have h1 := ih (stepS S o)
    have h2 := stepS_bounds S o
    simp only [List.foldl_cons, List.length_cons]
    omega

/-- What a call on a bag leaves, seen from an older world: the bag's blocks are all newer. -/
def NB (w0 : World) (p : Nat) (B : BagS) (w' : World) : Prop := ∃ g : Grows w0, w' = g.w ∧ ∃ F', IsBag g.w p B F' ∧ ∀ k, F' k → w0.heap.size ≤ k
theorem NB.of {w0 W w' : World} {p : Nat} {B : BagS} {F : Nat → Prop} {v : Value} {e : Ending} (hc : Chg Noth w0 W) (hF : ∀ k, F k → w0.heap.size ≤ k) (h : BagTo W p B F v e w') : e = .returned v ∧ NB w0 p B w' := by
  obtain ⟨rfl, m, F', rfl, hB, hF'⟩ := h
  have := hc.size
  exact ⟨rfl, ⟨m.w, hc.trans m.h (fun k hk h => by have := hF k h; omega)⟩, rfl, F', hB, fun k hk => by rcases hF' k hk with h | h; exact hF k h; omega⟩
theorem NB.grow {w0 w' w2 : World} {p : Nat} {B : BagS} (h : NB w0 p B w') (hc : Chg Noth w' w2) : NB w0 p B w2 := by
  obtain ⟨g, rfl, F, hB, hF⟩ := h
  exact ⟨⟨w2, g.h.trans hc (fun _ _ e => e)⟩, rfl, F, hB.grow hc, hF⟩

/-- Take, whatever the place. -/
def takeS (B : BagS) (i : Int) : BagS × Int := if i < 0 ∨ (B.l.length : Int) ≤ i then (B, 91) else ({ B with l := B.l.eraseIdx i.toNat }, 0)
theorem take_nb (w0 : World) (p : Nat) (B : BagS) (F : Nat → Prop) (i : Int) (w : World) (hB : IsBag w p B F) (hc : Chg Noth w0 w) (hF : ∀ k, F k → w0.heap.size ≤ k) :
    Calls Tryz.prog 86 #[.pointer (some ⟨p, 0, none⟩), i64 i] w fun e w' => ∃ v, e = .returned (.tuple #[v, i64 (takeS B i).2]) ∧ NB w0 p (takeS B i).1 w' := by
  by_cases h : i < 0 ∨ (B.l.length : Int) ≤ i
  · simp only [takeS, if_pos h]
    refine (take_bad p B F i w hB h).mono ?_
    rintro e w' ⟨rfl, g, rfl⟩
    exact ⟨_, rfl, ⟨g.w, hc.trans g.h (fun _ _ e => e)⟩, rfl, F, hB.grow g.h, hF⟩
  · simp only [takeS, if_neg h]
    obtain ⟨i, rfl⟩ := Int.eq_ofNat_of_zero_le (show 0 ≤ i by omega)
    have hi : i < B.l.length := by omega
    refine (take_good p i B F w hB _ (List.getElem?_eq_getElem hi)).mono ?_
    rintro e w' ⟨A, c, rfl, _, m, F', rfl, hB', hF', _⟩
    exact ⟨_, rfl, ⟨m.w, hc.trans m.h (fun k hk h => by have := hF k h; omega)⟩, rfl, F', hB', fun k hk => hF k (hF' k hk)⟩

end Go.Proofs.YteemkceceaabkaaGreat
