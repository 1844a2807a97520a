/- A script of calls on a bag: run, light. -/
import Derived.Test.YteemkceceaabkaaI
import Derived.LoopTactic
namespace Go.Proofs.Yteemkceceaabkaa
open Go.RowKit Go.Ear
set_option maxHeartbeats 1000000
set_option maxRecDepth 20000

/-- Something that is done to a bag. -/
structure OpS where
  kind : Int
  who : Int
  i : Int
  j : Int
  k : Int
  data : List UInt8

/-- A script in memory. -/
structure Scr (w : World) (A : Option Addr) (ops : List OpS) : Prop where
  cells : ∀ k o, ops[k]? = some o → ∃ b off D c, A = some ⟨b, off, none⟩ ∧ b < w.heap.size ∧ w.cell? ⟨b, off + k * 6, none⟩ = some (i64 o.kind) ∧ w.cell? ⟨b, off + k * 6 + 1, none⟩ = some (i64 o.who) ∧ w.cell? ⟨b, off + k * 6 + 2, none⟩ = some (i64 o.i) ∧
    w.cell? ⟨b, off + k * 6 + 3, none⟩ = some (i64 o.j) ∧ w.cell? ⟨b, off + k * 6 + 4, none⟩ = some (i64 o.k) ∧ w.cell? ⟨b, off + k * 6 + 5, none⟩ = some (.slice D o.data.length c) ∧ SL w (.slice D o.data.length c) o.data.length 1 (bv o.data)
  range : ∀ o ∈ ops, -9223372036854775808 ≤ o.j ∧ o.j ≤ 9223372036854775807

/-- One call. -/
def stepS (S : BagS × Nat × Nat) (o : OpS) : BagS × Nat × Nat :=
  if o.kind = 1 then ((sendS S.1 o.i o.j o.data).1, if (sendS S.1 o.i o.j o.data).2.2 = 0 then S.2.1 + 1 else S.2.1, S.2.2)
  else if o.kind = 3 then (if o.i < 0 ∨ (S.1.l.length : Int) ≤ o.i then S else ({ S.1 with l := S.1.l.eraseIdx o.i.toNat }, S.2.1, S.2.2 + 1))
  else if o.kind = 4 then ((doubleS S.1 o.i).1, if (doubleS S.1 o.i).2.2 = 0 then S.2.1 + 1 else S.2.1, S.2.2)
  else if o.kind = 5 then ((moveS S.1 o.i o.j).1, S.2.1, S.2.2)
  else if o.kind = 6 then ((spoilS S.1 o.i o.j o.k).1, S.2.1, S.2.2)
  else S
def runS (B : BagS) (ops : List OpS) : BagS × Nat × Nat := ops.foldl stepS (B, 0, 0)

theorem putS_last (B : BagS) (fr to : Int) (l : List UInt8) : B.last ≤ (putS B fr to l).1.last ∧ (putS B fr to l).1.last ≤ B.last + 1 := by
  unfold putS
  split
  · simp; omega
  · simp; omega
theorem stepS_bounds (S : BagS × Nat × Nat) (o : OpS) : (stepS S o).1.last ≤ S.1.last + 1 ∧ (stepS S o).2.1 ≤ S.2.1 + 1 ∧ (stepS S o).2.2 ≤ S.2.2 + 1 := by
  have hp := putS_last S.1
  unfold stepS
  split
  · refine ⟨?_, by simp only; split <;> omega, by simp⟩
    simp only [sendS]
    split
    · simp; omega
    · exact (hp _ _ _).2
  split
  · split <;> simp <;> omega
  split
  · refine ⟨?_, by simp only; split <;> omega, by simp⟩
    simp only [doubleS]
    split
    · simp; omega
    · split
      · simp; omega
      · exact (hp _ _ _).2
  split
  · refine ⟨?_, by simp, by simp⟩
    simp only [moveS]
    split
    · simp; omega
    · split <;> simp <;> omega
  split
  · refine ⟨?_, by simp, by simp⟩
    simp only [spoilS]
    split
    · simp; omega
    · split
      · simp; omega
      · split <;> simp <;> omega
  · simp; omega
theorem fold_bounds (S : BagS × Nat × Nat) (ops : List OpS) : (ops.foldl stepS S).1.last ≤ S.1.last + ops.length ∧ (ops.foldl stepS S).2.1 ≤ S.2.1 + ops.length ∧ (ops.foldl stepS S).2.2 ≤ S.2.2 + ops.length := by
  induction ops generalizing S with
  | nil => simp
  | cons o r ih =>
    have h1 := ih (stepS S o)
    have h2 := stepS_bounds S o
    simp only [List.foldl_cons, List.length_cons]
    omega

/-- What a call on a bag leaves, seen from an older world: the bag's blocks are all newer. -/
def NB (w0 : World) (p : Nat) (B : BagS) (w' : World) : Prop := ∃ g : Grows w0, w' = g.w ∧ ∃ F', IsBag g.w p B F' ∧ ∀ k, F' k → w0.heap.size ≤ k
theorem NB.of {w0 W w' : World} {p : Nat} {B : BagS} {F : Nat → Prop} {v : Value} {e : Ending} (hc : Chg Noth w0 W) (hF : ∀ k, F k → w0.heap.size ≤ k) (h : BagTo W p B F v e w') : e = .returned v ∧ NB w0 p B w' := by
  obtain ⟨rfl, m, F', rfl, hB, hF'⟩ := h
  have := hc.size
  exact ⟨rfl, ⟨m.w, hc.trans m.h (fun k hk h => by have := hF k h; omega)⟩, rfl, F', hB, fun k hk => by rcases hF' k hk with h | h; exact hF k h; omega⟩
theorem NB.grow {w0 w' w2 : World} {p : Nat} {B : BagS} (h : NB w0 p B w') (hc : Chg Noth w' w2) : NB w0 p B w2 := by
  obtain ⟨g, rfl, F, hB, hF⟩ := h
  exact ⟨⟨w2, g.h.trans hc (fun _ _ e => e)⟩, rfl, F, hB.grow hc, hF⟩

/-- Take, whatever the place. -/
def takeS (B : BagS) (i : Int) : BagS × Int := if i < 0 ∨ (B.l.length : Int) ≤ i then (B, 91) else ({ B with l := B.l.eraseIdx i.toNat }, 0)
theorem take_nb (w0 : World) (p : Nat) (B : BagS) (F : Nat → Prop) (i : Int) (w : World) (hB : IsBag w p B F) (hc : Chg Noth w0 w) (hF : ∀ k, F k → w0.heap.size ≤ k) :
    Calls Try.prog 13 #[.pointer (some ⟨p, 0, none⟩), i64 i] w fun e w' => ∃ v, e = .returned (.tuple #[v, i64 (takeS B i).2]) ∧ NB w0 p (takeS B i).1 w' := by
  by_cases h : i < 0 ∨ (B.l.length : Int) ≤ i
  · simp only [takeS, if_pos h]
    refine (take_bad p B F i w hB h).mono ?_
    rintro e w' ⟨rfl, g, rfl⟩
    exact ⟨_, rfl, ⟨g.w, hc.trans g.h (fun _ _ e => e)⟩, rfl, F, hB.grow g.h, hF⟩
  · simp only [takeS, if_neg h]
    obtain ⟨i, rfl⟩ := Int.eq_ofNat_of_zero_le (show 0 ≤ i by omega)
    have hi : i < B.l.length := by omega
    refine (take_good p i B F w hB _ (List.getElem?_eq_getElem hi)).mono ?_
    rintro e w' ⟨A, c, rfl, _, m, F', rfl, hB', hF', _⟩
    exact ⟨_, rfl, ⟨m.w, hc.trans m.h (fun k hk h => by have := hF k h; omega)⟩, rfl, F', hB', fun k hk => hF k (hF' k hk)⟩

theorem run_take (B : BagS) (ops : List OpS) (k : Nat) (o : OpS) (h : ops[k]? = some o) : runS B (ops.take (k + 1)) = stepS (runS B (ops.take k)) o := by
  unfold runS
  rw [List.take_add_one, h]
  simp
theorem run_any (p : Nat) (B : BagS) (ops : List OpS) (A : Option Addr) (c : Nat) (w0 w : World) (hS : Scr w0 A ops) (hB : NB w0 p B w) (hn : ops.length ≤ 150) (hl : ∀ o ∈ ops, o.data.length ≤ 2000) (hlast : B.last ≤ 1000) (hp : w0.heap.size ≤ p) :
    Calls Try.prog 17 #[.pointer (some ⟨p, 0, none⟩), .slice A ops.length c] w fun e w' => e = .returned (.tuple #[i64 ((runS B ops).2.1 : Nat), i64 ((runS B ops).2.2 : Nat)]) ∧ NB w0 p (runS B ops).1 w' := by
  obtain ⟨g0, rfl, F, hB, hF⟩ := hB
  obtain ⟨n, hnn⟩ : ∃ n, n = ops.length := ⟨_, rfl⟩
  rw [← hnn] at hn ⊢
  go_enter Try.func17, Try.ntmps17
  go_wp2_with fail
  go_loopw [6, 7, 8] (fun m t i wr => ∃ (k : Nat) (S : BagS × Nat × Nat), k ≤ n ∧ i = .int .i64 k ∧ S = runS B (ops.take k) ∧ m = .int .i64 (S.2.1 : Nat) ∧ t = .int .i64 (S.2.2 : Nat) ∧ NB w0 p S.1 wr) (fun _ _ i _ => n - (intOf i).toNat)
  case atStart => exact ⟨0, (B, 0, 0), Nat.zero_le _, rfl, by simp [runS], rfl, rfl, g0, rfl, F, hB, hF⟩
  case round =>
    clear hB hF F
    obtain ⟨k, S, hk, rfl, hSk, rfl, rfl, g, rfl, F, hB, hF⟩ := hrel
    have hb := fold_bounds (B, 0, 0) (ops.take k)
    rw [show (ops.take k).foldl stepS (B, 0, 0) = S from hSk.symm] at hb
    simp only [List.length_take] at hb
    obtain ⟨B', m, t⟩ := S
    simp only at hb hB ⊢
    have hm : m ≤ 150 := by omega
    have ht : t ≤ 150 := by omega
    have hla : B'.last < 1000000000000 := by omega
    clear hb
    by_cases hlt : k < n
    · obtain ⟨o, ho⟩ : ∃ o, ops[k]? = some o := ⟨_, List.getElem?_eq_getElem (by omega)⟩
      have HST := Lib.hid ((run_take B ops k o ho).trans (by rw [← hSk]))
      obtain ⟨b, off, D, dc, rfl, hb, a0, a1, a2, a3, a4, a5, hd⟩ := hS.cells k o ho
      have hr := hS.range o (List.mem_of_getElem? ho)
      have hlo := hl o (List.mem_of_getElem? ho)
      have i1 : Old b w0 := ⟨hb⟩
      have HNN := Lib.hid hnn
      clear hnn hSk
      have hdp : 0 < o.data.length → ∀ q, (Value.slice D o.data.length dc).ownBlock = some q → q ≠ p := fun h0 q hq e => by have := hd.own_lt h0 q hq; omega
      have hm1 : IntKind.i64.wrap ((m : Int) + 1) = (m : Int) + 1 := by rw [IntKind.wrap_i64]; omega
      have ht1 : IntKind.i64.wrap ((t : Int) + 1) = (t : Int) + 1 := by rw [IntKind.wrap_i64]; omega
      have hk1 : IntKind.i64.wrap ((k : Int) + 1) = (k : Int) + 1 := by rw [IntKind.wrap_i64]; omega
      by_cases k1 : o.kind = 1
      · have HR : Hid (runS B (ops.take (k + 1)) = ((sendS B' o.i o.j o.data).1, if (sendS B' o.i o.j o.data).2.2 = 0 then m + 1 else m, t)) := Lib.hid (HST.out.trans (by simp [stepS, k1]))
        clear HST
        have hcall := fun W h => send_any p B' F o.i o.j D dc o.data W h
        generalize sendS B' o.i o.j o.data = R at hcall HR
        obtain ⟨B2, id, e2⟩ := R
        go_wp2_with fail
        refine (hcall _ (hB.grow (by repeat (with_reducible first | exact Chg.refl _ _ | refine chg_m ?_ _ | refine chg_g ?_ _ | refine chg_alloc ?_ _ | refine chg_drew ?_ | refine chg_drewN ?_ _ | refine chg_set ?_ _ _ _))) (hd.grow (by repeat (with_reducible first | exact Chg.refl _ _ | refine chg_m ?_ _ | refine chg_g ?_ _ | refine chg_alloc ?_ _ | refine chg_drew ?_ | refine chg_drewN ?_ _ | refine chg_set ?_ _ _ _))) hdp (by omega) hla).mono ?_
        intro e w' h
        obtain ⟨rfl, g2, rfl, F2, hB2, hF2⟩ := NB.of (w0 := w0) (by repeat (with_reducible first | exact Chg.refl _ _ | refine chg_m ?_ _ | refine chg_g ?_ _ | refine chg_alloc ?_ _ | refine chg_drew ?_ | refine chg_drewN ?_ _ | refine chg_set ?_ _ _ _)) hF h
        have HNB : NB w0 p B2 g2.w := ⟨g2, rfl, F2, hB2, hF2⟩
        clear h hcall hB hF hB2 hF2
        by_cases he : e2 = 0
        · have HR2 : Hid (runS B (ops.take (k + 1)) = (B2, m + 1, t)) := Lib.hid (HR.out.trans (by simp [he]))
          clear HR
          go_wp2
          go_roundw
          case rel => exact ⟨k + 1, (B2, m + 1, t), by omega, by go_num, HR2.out.symm, by go_num, by go_num, HNB⟩
          case measure => simp [intOf]; omega
        · have HR2 : Hid (runS B (ops.take (k + 1)) = (B2, m, t)) := Lib.hid (HR.out.trans (by simp [he]))
          clear HR
          go_wp2
          go_roundw
          case rel => exact ⟨k + 1, (B2, m, t), by omega, by go_num, HR2.out.symm, by go_num, by go_num, HNB⟩
          case measure => simp [intOf]; omega
      by_cases k3 : o.kind = 3
      · have HR : Hid (runS B (ops.take (k + 1)) = ((takeS B' o.i).1, m, if (takeS B' o.i).2 = 0 then t + 1 else t)) := Lib.hid (HST.out.trans (by simp only [stepS, if_neg k1, if_pos k3, takeS]; split <;> simp))
        clear HST
        have hcall := fun W h h2 => take_nb w0 p B' F o.i W h h2 hF
        generalize takeS B' o.i = R at hcall HR
        obtain ⟨B2, e2⟩ := R
        go_wp2_with fail
        refine (hcall _ (hB.grow (by repeat (with_reducible first | exact Chg.refl _ _ | refine chg_m ?_ _ | refine chg_g ?_ _ | refine chg_alloc ?_ _ | refine chg_drew ?_ | refine chg_drewN ?_ _ | refine chg_set ?_ _ _ _))) (by repeat (with_reducible first | exact Chg.refl _ _ | refine chg_m ?_ _ | refine chg_g ?_ _ | refine chg_alloc ?_ _ | refine chg_drew ?_ | refine chg_drewN ?_ _ | refine chg_set ?_ _ _ _))).mono ?_
        rintro e w' ⟨v, rfl, HNB⟩
        clear hcall hB hF
        obtain ⟨g2, rfl, H2⟩ := HNB
        have HNB : NB w0 p B2 g2.w := ⟨g2, rfl, H2⟩
        clear H2
        by_cases he : e2 = 0
        · have HR2 : Hid (runS B (ops.take (k + 1)) = (B2, m, t + 1)) := Lib.hid (HR.out.trans (by simp [he]))
          clear HR
          go_wp2
          go_roundw
          case rel => exact ⟨k + 1, (B2, m, t + 1), by omega, by go_num, HR2.out.symm, by go_num, by go_num, HNB⟩
          case measure => simp [intOf]; omega
        · have HR2 : Hid (runS B (ops.take (k + 1)) = (B2, m, t)) := Lib.hid (HR.out.trans (by simp [he]))
          clear HR
          go_wp2
          go_roundw
          case rel => exact ⟨k + 1, (B2, m, t), by omega, by go_num, HR2.out.symm, by go_num, by go_num, HNB⟩
          case measure => simp [intOf]; omega
      by_cases k4 : o.kind = 4
      · have HR : Hid (runS B (ops.take (k + 1)) = ((doubleS B' o.i).1, if (doubleS B' o.i).2.2 = 0 then m + 1 else m, t)) := Lib.hid (HST.out.trans (by simp [stepS, k4]))
        clear HST
        have hcall := fun W h => double_any p B' F o.i W h
        generalize doubleS B' o.i = R at hcall HR
        obtain ⟨B2, id, e2⟩ := R
        go_wp2_with fail
        refine (hcall _ (hB.grow (by repeat (with_reducible first | exact Chg.refl _ _ | refine chg_m ?_ _ | refine chg_g ?_ _ | refine chg_alloc ?_ _ | refine chg_drew ?_ | refine chg_drewN ?_ _ | refine chg_set ?_ _ _ _))) hla).mono ?_
        intro e w' h
        obtain ⟨rfl, g2, rfl, F2, hB2, hF2⟩ := NB.of (w0 := w0) (by repeat (with_reducible first | exact Chg.refl _ _ | refine chg_m ?_ _ | refine chg_g ?_ _ | refine chg_alloc ?_ _ | refine chg_drew ?_ | refine chg_drewN ?_ _ | refine chg_set ?_ _ _ _)) hF h
        have HNB : NB w0 p B2 g2.w := ⟨g2, rfl, F2, hB2, hF2⟩
        clear h hcall hB hF hB2 hF2
        by_cases he : e2 = 0
        · have HR2 : Hid (runS B (ops.take (k + 1)) = (B2, m + 1, t)) := Lib.hid (HR.out.trans (by simp [he]))
          clear HR
          go_wp2
          go_roundw
          case rel => exact ⟨k + 1, (B2, m + 1, t), by omega, by go_num, HR2.out.symm, by go_num, by go_num, HNB⟩
          case measure => simp [intOf]; omega
        · have HR2 : Hid (runS B (ops.take (k + 1)) = (B2, m, t)) := Lib.hid (HR.out.trans (by simp [he]))
          clear HR
          go_wp2
          go_roundw
          case rel => exact ⟨k + 1, (B2, m, t), by omega, by go_num, HR2.out.symm, by go_num, by go_num, HNB⟩
          case measure => simp [intOf]; omega
      by_cases k5 : o.kind = 5
      · have HR : Hid (runS B (ops.take (k + 1)) = ((moveS B' o.i o.j).1, m, t)) := Lib.hid (HST.out.trans (by simp [stepS, k5]))
        clear HST
        have hcall := fun W h => move_any p B' F o.i o.j W h
        generalize moveS B' o.i o.j = R at hcall HR
        obtain ⟨B2, e2⟩ := R
        go_wp2_with fail
        refine (hcall _ (hB.grow (by repeat (with_reducible first | exact Chg.refl _ _ | refine chg_m ?_ _ | refine chg_g ?_ _ | refine chg_alloc ?_ _ | refine chg_drew ?_ | refine chg_drewN ?_ _ | refine chg_set ?_ _ _ _)))).mono ?_
        intro e w' h
        obtain ⟨rfl, g2, rfl, F2, hB2, hF2⟩ := NB.of (w0 := w0) (by repeat (with_reducible first | exact Chg.refl _ _ | refine chg_m ?_ _ | refine chg_g ?_ _ | refine chg_alloc ?_ _ | refine chg_drew ?_ | refine chg_drewN ?_ _ | refine chg_set ?_ _ _ _)) hF h
        have HNB : NB w0 p B2 g2.w := ⟨g2, rfl, F2, hB2, hF2⟩
        clear h hcall hB hF hB2 hF2
        go_wp2
        go_roundw
        case rel => exact ⟨k + 1, (B2, m, t), by omega, by go_num, HR.out.symm, by go_num, by go_num, HNB⟩
        case measure => simp [intOf]; omega
      by_cases k6 : o.kind = 6
      · have HR : Hid (runS B (ops.take (k + 1)) = ((spoilS B' o.i o.j o.k).1, m, t)) := Lib.hid (HST.out.trans (by simp [stepS, k6]))
        clear HST
        have hcall := fun W h => spoil_any p B' F o.i o.j o.k W h
        generalize spoilS B' o.i o.j o.k = R at hcall HR
        obtain ⟨B2, e2⟩ := R
        go_wp2_with fail
        refine (hcall _ (hB.grow (by repeat (with_reducible first | exact Chg.refl _ _ | refine chg_m ?_ _ | refine chg_g ?_ _ | refine chg_alloc ?_ _ | refine chg_drew ?_ | refine chg_drewN ?_ _ | refine chg_set ?_ _ _ _))) hr).mono ?_
        intro e w' h
        obtain ⟨rfl, g2, rfl, F2, hB2, hF2⟩ := NB.of (w0 := w0) (by repeat (with_reducible first | exact Chg.refl _ _ | refine chg_m ?_ _ | refine chg_g ?_ _ | refine chg_alloc ?_ _ | refine chg_drew ?_ | refine chg_drewN ?_ _ | refine chg_set ?_ _ _ _)) hF h
        have HNB : NB w0 p B2 g2.w := ⟨g2, rfl, F2, hB2, hF2⟩
        clear h hcall hB hF hB2 hF2
        go_wp2
        go_roundw
        case rel => exact ⟨k + 1, (B2, m, t), by omega, by go_num, HR.out.symm, by go_num, by go_num, HNB⟩
        case measure => simp [intOf]; omega
      · have HR : Hid (runS B (ops.take (k + 1)) = (B', m, t)) := Lib.hid (HST.out.trans (by simp [stepS, k1, k3, k4, k5, k6]))
        clear HST
        have HNB : NB w0 p B' g.w := ⟨g, rfl, F, hB, hF⟩
        clear hB hF
        go_wp2
        go_roundw
        case rel => exact ⟨k + 1, (B', m, t), by omega, by go_num, HR.out.symm, by go_num, by go_num, HNB.grow (by repeat (with_reducible first | exact Chg.refl _ _ | refine chg_m ?_ _ | refine chg_g ?_ _ | refine chg_alloc ?_ _ | refine chg_drew ?_ | refine chg_drewN ?_ _ | refine chg_set ?_ _ _ _))⟩
        case measure => simp [intOf]; omega
    · obtain rfl : k = n := by omega
      have HNB : NB w0 p B' g.w := ⟨g, rfl, F, hB, hF⟩
      have e : runS B ops = (B', m, t) := by rw [hSk, hnn, List.take_length]
      have HE := Lib.hid e
      clear hB hF hSk hnn e
      go_wp2
      exact bodyPost_ret (v := .tuple #[i64 m, i64 t]) (by simp [results, Try.results17, go_sem]) rfl ⟨by rw [HE.out], by rw [HE.out]; exact HNB⟩
end Go.Proofs.Yteemkceceaabkaa
