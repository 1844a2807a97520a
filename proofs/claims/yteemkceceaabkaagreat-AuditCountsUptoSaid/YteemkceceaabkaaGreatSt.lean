/- Sets of ids: words of 32 bits; the program's functions on them. -/
import Derived.Test.YteemkceceaabkaaGreatA
import Derived.Deep.RegionHeldLaw
import Derived.Deep.RegionLaw
import Derived.LoopTactic
import Derived.Laws.BitsLemmas
namespace Go.Ear
open Go.RowKit

abbrev u32v (n : Nat) : Value := .int .u32 (n : Int)
/-- A set's four words. -/
structure St where
  a : Nat
  b : Nat
  c : Nat
  d : Nat
def St.get (s : St) (w : Nat) : Nat := match w with | 0 => s.a | 1 => s.b | 2 => s.c | _ => s.d
abbrev St.v (s : St) : Value := .agg #[u32v s.a, u32v s.b, u32v s.c, u32v s.d]
def St.ok (s : St) : Prop := s.a < 4294967296 ∧ s.b < 4294967296 ∧ s.c < 4294967296 ∧ s.d < 4294967296
def St.map2 (f : Nat → Nat → Nat) (s t : St) : St := ⟨f s.a t.a, f s.b t.b, f s.c t.c, f s.d t.d⟩
theorem St.ok_get {s : St} (h : s.ok) (w : Nat) : s.get w < 4294967296 := by
  obtain ⟨h1, h2, h3, h4⟩ := h
  unfold St.get
  split <;> assumption
/-- The first q words of the one, the others of the other one. -/
def St.upd (r s : St) (q : Nat) : St := ⟨if 0 < q then r.a else s.a, if 1 < q then r.b else s.b, if 2 < q then r.c else s.c, if 3 < q then r.d else s.d⟩
abbrev St.cells (s : St) : Array Value := #[u32v s.a, u32v s.b, u32v s.c, u32v s.d]
theorem St.cells_get (s : St) {q : Nat} (h : q < 4) : s.cells[q]? = some (u32v (s.get q)) := by
  rcases (show q = 0 ∨ q = 1 ∨ q = 2 ∨ q = 3 by omega) with rfl | rfl | rfl | rfl <;> rfl
theorem St.upd_step (r s : St) {q : Nat} (h : q < 4) : (r.upd s q).cells.setIfInBounds q (u32v (r.get q)) = (r.upd s (q + 1)).cells := by
  rcases (show q = 0 ∨ q = 1 ∨ q = 2 ∨ q = 3 by omega) with rfl | rfl | rfl | rfl <;> simp [St.upd, St.cells, St.get]
theorem St.upd_get (r s : St) (q : Nat) (h : q < 4) : (r.upd s q).get q = s.get q := by
  rcases (show q = 0 ∨ q = 1 ∨ q = 2 ∨ q = 3 by omega) with rfl | rfl | rfl | rfl <;> simp [St.upd, St.get]
theorem St.map2_get (f : Nat → Nat → Nat) (s t : St) (q : Nat) : (St.map2 f s t).get q = f (s.get q) (t.get q) := by
  unfold St.get St.map2
  split <;> rfl
/-- The ids below n. -/
def St.upTo (n : Nat) : St := ⟨2 ^ (min n 32) - 1, 2 ^ (min (n - 32) 32) - 1, 2 ^ (min (n - 64) 32) - 1, 2 ^ (min (n - 96) 32) - 1⟩
theorem St.upTo_get (n q : Nat) (h : q < 4) : (St.upTo n).get q = 2 ^ (min (n - q * 32) 32) - 1 := by
  rcases (show q = 0 ∨ q = 1 ∨ q = 2 ∨ q = 3 by omega) with rfl | rfl | rfl | rfl <;> simp [St.upTo, St.get]
theorem St.upTo_ok (n : Nat) : (St.upTo n).ok := by
  have h : ∀ k, 2 ^ (min k 32) - 1 < 4294967296 := fun k => by
    have : 2 ^ (min k 32) ≤ 2 ^ 32 := Nat.pow_le_pow_right (by decide) (Nat.min_le_right _ _)
    omega
  exact ⟨h _, h _, h _, h _⟩
theorem wraps_u32 (n : Int) (h₀ : 0 ≤ n) (h₁ : n < 2 ^ 32) : IntKind.u32.wrap n = n := by rw [IntKind.wrap_u32]; omega
theorem st_and {a b : Nat} (ha : a < 4294967296) (hb : b < 4294967296) : bits .and .u32 (a : Int) (b : Int) = ((a &&& b : Nat) : Int) := (bits_nat .u32 32 (by decide) wraps_u32 a b ha hb).1
theorem st_less {a b : Nat} (ha : a < 4294967296) (hb : b < 4294967296) : bits .andNot .u32 (a : Int) (b : Int) = ((a &&& (4294967295 - b) : Nat) : Int) := by
  have h1 : (BitVec.ofInt 32 (a : Int)).toNat = a := by rw [BitVec.ofInt_natCast, BitVec.toNat_ofNat]; exact Nat.mod_eq_of_lt ha
  have h2 : (BitVec.ofInt 32 (b : Int)).toNat = b := by rw [BitVec.ofInt_natCast, BitVec.toNat_ofNat]; exact Nat.mod_eq_of_lt hb
  have h3 : (BitVec.ofInt 32 (a : Int) &&& ~~~ BitVec.ofInt 32 (b : Int)).toNat = a &&& (4294967295 - b) := by
    rw [BitVec.toNat_and, BitVec.toNat_not, h1, h2]
  show IntKind.u32.wrap ((BitVec.ofInt 32 (a : Int) &&& ~~~ BitVec.ofInt 32 (b : Int)).toNat : Int) = _
  rw [h3]
  have : a &&& (4294967295 - b) ≤ a := Nat.and_le_left
  exact wraps_u32 _ (by omega) (by omega)
theorem upTo_val (n q : Nat) : ((2 : Int) ^ (if (32 : Int) < (if (n : Int) - (q : Int) * 32 < 0 then 0 else (n : Int) - (q : Int) * 32) then 32 else (if (n : Int) - (q : Int) * 32 < 0 then 0 else (n : Int) - (q : Int) * 32)).toNat - 1) % 4294967296 = ((2 ^ (min (n - q * 32) 32) - 1 : Nat) : Int) := by
  have he : (if (32 : Int) < (if (n : Int) - (q : Int) * 32 < 0 then 0 else (n : Int) - (q : Int) * 32) then 32 else (if (n : Int) - (q : Int) * 32 < 0 then 0 else (n : Int) - (q : Int) * 32)).toNat = min (n - q * 32) 32 := by
    split <;> split <;> omega
  rw [he]
  generalize hk : min (n - q * 32) 32 = k
  have hk32 : k ≤ 32 := by omega
  have h1 : 2 ^ k ≤ 2 ^ 32 := Nat.pow_le_pow_right (by decide) hk32
  have h2 : 0 < 2 ^ k := Nat.two_pow_pos k
  have h3 : ((2 : Int) ^ k) = ((2 ^ k : Nat) : Int) := by simp
  rw [h3]
  omega
theorem heap_hs (W : World) (ob : Obj) (b : Nat) [h : HS W b] : (W.alloc ob).heap[b]? = some ob := by
  have := heap_alloc_new W ob
  rwa [h.eq] at this
theorem and_lt' {a b : Nat} (ha : a < 4294967296) : a &&& b < 4294967296 := Nat.lt_of_le_of_lt Nat.and_le_left ha
end Go.Ear
namespace Go.Proofs.YteemkceceaabkaaGreat
open Go.RowKit Go.Ear
set_option maxHeartbeats 1000000
set_option maxRecDepth 40000

theorem isId_any (i : Int) (w : World) : Calls Tryz.prog 154 #[i64 i] w fun e w' => e = .returned (.bool (decide (0 ≤ i ∧ i < 100))) ∧ w' = w := by
  rcases (show i < 0 ∨ (0 ≤ i ∧ 100 ≤ i) ∨ (0 ≤ i ∧ i < 100) by omega) with h | ⟨h0, h1⟩ | ⟨h0, h1⟩
  all_goals
    go_enter Tryz.func154, Tryz.ntmps154
    go_wp2
    exact bodyPost_ret (by simp [results, Tryz.results154, go_sem]; rfl) rfl ⟨by congr 1; simp; omega, rfl⟩

theorem within1_any (a b : Nat) (ha : a < 4294967296) (hb : b < 4294967296) (w : World) : Calls Tryz.prog 151 #[u32v a, u32v b] w fun e w' => e = .returned (u32v (a &&& b)) ∧ w' = w := by
  go_enter Tryz.func151, Tryz.ntmps151
  go_wp2
  exact bodyPost_ret (v := u32v (a &&& b)) (by simp [results, Tryz.results151, go_sem, st_and ha hb]) rfl ⟨rfl, rfl⟩

theorem clean1_any (a b : Nat) (ha : a < 4294967296) (hb : b < 4294967296) (w : World) : Calls Tryz.prog 156 #[u32v a, u32v b] w fun e w' => e = .returned (u32v (a &&& b)) ∧ w' = w := by
  go_enter Tryz.func156, Tryz.ntmps156
  go_wp2
  exact bodyPost_ret (v := u32v (a &&& b)) (by simp [results, Tryz.results156, go_sem, st_and ha hb]) rfl ⟨rfl, rfl⟩

theorem less1_any (a b : Nat) (ha : a < 4294967296) (hb : b < 4294967296) (w : World) : Calls Tryz.prog 157 #[u32v a, u32v b] w fun e w' => e = .returned (u32v (a &&& (4294967295 - b))) ∧ w' = w := by
  go_enter Tryz.func157, Tryz.ntmps157
  go_wp2
  exact bodyPost_ret (v := u32v (a &&& (4294967295 - b))) (by simp [results, Tryz.results157, go_sem, st_less ha hb]) rfl ⟨rfl, rfl⟩

theorem each_within (s t : St) (hs : s.ok) (ht : t.ok) (w : World) : Calls Tryz.prog 149 #[s.v, t.v, .func (.func 151) #[] #[]] w (Gr (St.map2 (fun a b => a &&& b) s t).v w) := by
  have hcl := fun a b ha hb W => within1_any a b ha hb W
  have hsg := fun q => St.ok_get hs q
  have htg := fun q => St.ok_get ht q
  generalize hr : St.map2 (fun a b => a &&& b) s t = r
  have hrg : ∀ q, r.get q = (fun a b => a &&& b) (s.get q) (t.get q) := fun q => by rw [← hr, St.map2_get]
  have HR := Lib.hid hrg
  clear hr hrg
  go_enter Tryz.func149, Tryz.ntmps149
  go_wp2
  go_loopw [8] (fun i' wr => ∃ q : Nat, q ≤ 4 ∧ i' = .int .i64 q ∧ Chg Noth w wr ∧ wr.heap[w.heap.size]? = some (.cells (r.upd s q).cells 76 (0, 0)) ∧ wr.heap[w.heap.size + 1]? = some (.cells t.cells 76 (0, 0)) ∧ ∃ cz : Array Value, cz.size = 4 ∧ wr.heap[w.heap.size + 1 + 1]? = some (.cells cz 76 (0, 0))) (fun i' _ => 4 - (intOf i').toNat)
  case atStart =>
    refine ⟨0, by omega, rfl, (by repeat (with_reducible first | exact Chg.refl _ _ | refine chg_m ?_ _ | refine chg_g ?_ _ | refine chg_alloc ?_ _ | refine chg_drew ?_ | refine chg_drewN ?_ _ | refine chg_set ?_ _ _ _)), ?_, ?_, _, ?_, heap_hs _ _ _⟩
    · rw [Below.heap_alloc _ _ _ (by simp <;> omega), Below.heap_alloc _ _ _ (by simp)]
      exact heap_alloc_new _ _
    · rw [Below.heap_alloc _ _ _ (by simp)]
      exact heap_hs _ _ _
    · rfl
  case round =>
    obtain ⟨q, hq, rfl, hc, h3, h4, cz, hz, h6⟩ := hrel
    have l3 := (Array.getElem?_eq_some_iff.1 h3).1
    have l4 := (Array.getElem?_eq_some_iff.1 h4).1
    have l6 := (Array.getElem?_eq_some_iff.1 h6).1
    have j3 : Old w.heap.size wr := ⟨l3⟩
    have j4 : Old (w.heap.size + 1) wr := ⟨l4⟩
    have j6 : Old (w.heap.size + 1 + 1) wr := ⟨l6⟩
    by_cases hlt : q < 4
    · have c3 : wr.cell? ⟨w.heap.size, q, none⟩ = some (u32v (s.get q)) := by rw [cell_of_row _ _ _ _ _ _ h3, St.cells_get _ hlt, St.upd_get _ _ _ hlt]
      have c4 : wr.cell? ⟨w.heap.size + 1, q, none⟩ = some (u32v (t.get q)) := by rw [cell_of_row _ _ _ _ _ _ h4, St.cells_get _ hlt]
      have f3 : wr.frozen? ⟨w.heap.size, q, none⟩ = false := frozen_of_row _ _ _ _ _ h3
      have k3 : HasCell wr w.heap.size q := ⟨by rw [c3]; rfl⟩
      have hcq := hcl _ _ (hsg q) (htg q)
      have hset := heap_setCell_same wr w.heap.size q _ _ (u32v (r.get q)) h3
      rw [St.upd_step _ _ hlt] at hset
      have e4 := (heap_set_far w.heap.size q (w.heap.size + 1) (u32v (r.get q)) (by omega)).trans h4
      have e6 := (heap_set_far w.heap.size q (w.heap.size + 1 + 1) (u32v (r.get q)) (by omega)).trans h6
      have hcs : Chg Noth w (wr.setCell ⟨w.heap.size, q, none⟩ (u32v (r.get q))) := chg_set hc _ _ _
      have HS := Lib.hid (And.intro hset (And.intro e4 (And.intro e6 hcs)))
      rw [← HR.out q] at hcq
      generalize r.get q = rq at *
      generalize s.get q = sq at *
      generalize t.get q = tq at *
      clear h3 h4 h6 hset e4 e6 hcs hc
      go_wp2
      go_region_law (first | (go_simp; go_at_call 151; refine (hcq _).mono ?_; rintro e w' ⟨rfl, hww⟩; have hww := hww.symm; subst hww))
      all_goals
        go_wp2
        exact ⟨⟨q + 1, by omega, by simp, chg_drew HS.out.2.2.2, HS.out.1, HS.out.2.1, cz, hz, HS.out.2.2.1⟩, by simp [intOf]; omega⟩
    · obtain rfl : q = 4 := by omega
      have hrs : r.upd s 4 = r := rfl
      rw [hrs] at h3
      have c0 : wr.cell? ⟨w.heap.size, 0, none⟩ = some (u32v r.a) := by rw [cell_of_row _ _ _ _ _ _ h3]; rfl
      have c1 : wr.cell? ⟨w.heap.size, 1, none⟩ = some (u32v r.b) := by rw [cell_of_row _ _ _ _ _ _ h3]; rfl
      have c2 : wr.cell? ⟨w.heap.size, 2, none⟩ = some (u32v r.c) := by rw [cell_of_row _ _ _ _ _ _ h3]; rfl
      have c3 : wr.cell? ⟨w.heap.size, 3, none⟩ = some (u32v r.d) := by rw [cell_of_row _ _ _ _ _ _ h3]; rfl
      have hzq : ∀ z, (hzz : z < 4) → wr.cell? ⟨w.heap.size + 1 + 1, z, none⟩ = some (cz[z]'(by omega)) ∧ wr.frozen? ⟨w.heap.size + 1 + 1, z, none⟩ = false := fun z hzz => ⟨by rw [cell_of_row _ _ _ _ _ _ h6]; exact Array.getElem?_eq_getElem (by omega), frozen_of_row _ _ _ _ _ h6⟩
      obtain ⟨y0, g0⟩ := hzq 0 (by omega)
      obtain ⟨y1, g1⟩ := hzq 1 (by omega)
      obtain ⟨y2, g2⟩ := hzq 2 (by omega)
      obtain ⟨y3, g3⟩ := hzq 3 (by omega)
      have m0 : HasCell wr (w.heap.size + 1 + 1) 0 := ⟨by rw [y0]; rfl⟩
      have m1 : HasCell wr (w.heap.size + 1 + 1) 1 := ⟨by rw [y1]; rfl⟩
      have m2 : HasCell wr (w.heap.size + 1 + 1) 2 := ⟨by rw [y2]; rfl⟩
      have m3 : HasCell wr (w.heap.size + 1 + 1) 3 := ⟨by rw [y3]; rfl⟩
      clear hzq h3 h4 h6
      have HC := Lib.hid hc
      clear hc
      go_wp2
      exact bodyPost_ret (v := r.v) (by simp [results, Tryz.results149, go_sem]) rfl (gr_mk rfl (by repeat (with_reducible first | exact HC.out | exact Chg.refl _ _ | refine chg_m ?_ _ | refine chg_g ?_ _ | refine chg_alloc ?_ _ | refine chg_drew ?_ | refine chg_drewN ?_ _ | refine chg_set ?_ _ _ _)))

theorem each_clean (s t : St) (hs : s.ok) (ht : t.ok) (w : World) : Calls Tryz.prog 149 #[s.v, t.v, .func (.func 156) #[] #[]] w (Gr (St.map2 (fun a b => a &&& b) s t).v w) := by
  have hcl := fun a b ha hb W => clean1_any a b ha hb W
  have hsg := fun q => St.ok_get hs q
  have htg := fun q => St.ok_get ht q
  generalize hr : St.map2 (fun a b => a &&& b) s t = r
  have hrg : ∀ q, r.get q = (fun a b => a &&& b) (s.get q) (t.get q) := fun q => by rw [← hr, St.map2_get]
  have HR := Lib.hid hrg
  clear hr hrg
  go_enter Tryz.func149, Tryz.ntmps149
  go_wp2
  go_loopw [8] (fun i' wr => ∃ q : Nat, q ≤ 4 ∧ i' = .int .i64 q ∧ Chg Noth w wr ∧ wr.heap[w.heap.size]? = some (.cells (r.upd s q).cells 76 (0, 0)) ∧ wr.heap[w.heap.size + 1]? = some (.cells t.cells 76 (0, 0)) ∧ ∃ cz : Array Value, cz.size = 4 ∧ wr.heap[w.heap.size + 1 + 1]? = some (.cells cz 76 (0, 0))) (fun i' _ => 4 - (intOf i').toNat)
  case atStart =>
    refine ⟨0, by omega, rfl, (by repeat (with_reducible first | exact Chg.refl _ _ | refine chg_m ?_ _ | refine chg_g ?_ _ | refine chg_alloc ?_ _ | refine chg_drew ?_ | refine chg_drewN ?_ _ | refine chg_set ?_ _ _ _)), ?_, ?_, _, ?_, heap_hs _ _ _⟩
    · rw [Below.heap_alloc _ _ _ (by simp <;> omega), Below.heap_alloc _ _ _ (by simp)]
      exact heap_alloc_new _ _
    · rw [Below.heap_alloc _ _ _ (by simp)]
      exact heap_hs _ _ _
    · rfl
  case round =>
    obtain ⟨q, hq, rfl, hc, h3, h4, cz, hz, h6⟩ := hrel
    have l3 := (Array.getElem?_eq_some_iff.1 h3).1
    have l4 := (Array.getElem?_eq_some_iff.1 h4).1
    have l6 := (Array.getElem?_eq_some_iff.1 h6).1
    have j3 : Old w.heap.size wr := ⟨l3⟩
    have j4 : Old (w.heap.size + 1) wr := ⟨l4⟩
    have j6 : Old (w.heap.size + 1 + 1) wr := ⟨l6⟩
    by_cases hlt : q < 4
    · have c3 : wr.cell? ⟨w.heap.size, q, none⟩ = some (u32v (s.get q)) := by rw [cell_of_row _ _ _ _ _ _ h3, St.cells_get _ hlt, St.upd_get _ _ _ hlt]
      have c4 : wr.cell? ⟨w.heap.size + 1, q, none⟩ = some (u32v (t.get q)) := by rw [cell_of_row _ _ _ _ _ _ h4, St.cells_get _ hlt]
      have f3 : wr.frozen? ⟨w.heap.size, q, none⟩ = false := frozen_of_row _ _ _ _ _ h3
      have k3 : HasCell wr w.heap.size q := ⟨by rw [c3]; rfl⟩
      have hcq := hcl _ _ (hsg q) (htg q)
      have hset := heap_setCell_same wr w.heap.size q _ _ (u32v (r.get q)) h3
      rw [St.upd_step _ _ hlt] at hset
      have e4 := (heap_set_far w.heap.size q (w.heap.size + 1) (u32v (r.get q)) (by omega)).trans h4
      have e6 := (heap_set_far w.heap.size q (w.heap.size + 1 + 1) (u32v (r.get q)) (by omega)).trans h6
      have hcs : Chg Noth w (wr.setCell ⟨w.heap.size, q, none⟩ (u32v (r.get q))) := chg_set hc _ _ _
      have HS := Lib.hid (And.intro hset (And.intro e4 (And.intro e6 hcs)))
      rw [← HR.out q] at hcq
      generalize r.get q = rq at *
      generalize s.get q = sq at *
      generalize t.get q = tq at *
      clear h3 h4 h6 hset e4 e6 hcs hc
      go_wp2
      go_region_law (first | (go_simp; go_at_call 156; refine (hcq _).mono ?_; rintro e w' ⟨rfl, hww⟩; have hww := hww.symm; subst hww))
      all_goals
        go_wp2
        exact ⟨⟨q + 1, by omega, by simp, chg_drew HS.out.2.2.2, HS.out.1, HS.out.2.1, cz, hz, HS.out.2.2.1⟩, by simp [intOf]; omega⟩
    · obtain rfl : q = 4 := by omega
      have hrs : r.upd s 4 = r := rfl
      rw [hrs] at h3
      have c0 : wr.cell? ⟨w.heap.size, 0, none⟩ = some (u32v r.a) := by rw [cell_of_row _ _ _ _ _ _ h3]; rfl
      have c1 : wr.cell? ⟨w.heap.size, 1, none⟩ = some (u32v r.b) := by rw [cell_of_row _ _ _ _ _ _ h3]; rfl
      have c2 : wr.cell? ⟨w.heap.size, 2, none⟩ = some (u32v r.c) := by rw [cell_of_row _ _ _ _ _ _ h3]; rfl
      have c3 : wr.cell? ⟨w.heap.size, 3, none⟩ = some (u32v r.d) := by rw [cell_of_row _ _ _ _ _ _ h3]; rfl
      have hzq : ∀ z, (hzz : z < 4) → wr.cell? ⟨w.heap.size + 1 + 1, z, none⟩ = some (cz[z]'(by omega)) ∧ wr.frozen? ⟨w.heap.size + 1 + 1, z, none⟩ = false := fun z hzz => ⟨by rw [cell_of_row _ _ _ _ _ _ h6]; exact Array.getElem?_eq_getElem (by omega), frozen_of_row _ _ _ _ _ h6⟩
      obtain ⟨y0, g0⟩ := hzq 0 (by omega)
      obtain ⟨y1, g1⟩ := hzq 1 (by omega)
      obtain ⟨y2, g2⟩ := hzq 2 (by omega)
      obtain ⟨y3, g3⟩ := hzq 3 (by omega)
      have m0 : HasCell wr (w.heap.size + 1 + 1) 0 := ⟨by rw [y0]; rfl⟩
      have m1 : HasCell wr (w.heap.size + 1 + 1) 1 := ⟨by rw [y1]; rfl⟩
      have m2 : HasCell wr (w.heap.size + 1 + 1) 2 := ⟨by rw [y2]; rfl⟩
      have m3 : HasCell wr (w.heap.size + 1 + 1) 3 := ⟨by rw [y3]; rfl⟩
      clear hzq h3 h4 h6
      have HC := Lib.hid hc
      clear hc
      go_wp2
      exact bodyPost_ret (v := r.v) (by simp [results, Tryz.results149, go_sem]) rfl (gr_mk rfl (by repeat (with_reducible first | exact HC.out | exact Chg.refl _ _ | refine chg_m ?_ _ | refine chg_g ?_ _ | refine chg_alloc ?_ _ | refine chg_drew ?_ | refine chg_drewN ?_ _ | refine chg_set ?_ _ _ _)))

theorem each_less (s t : St) (hs : s.ok) (ht : t.ok) (w : World) : Calls Tryz.prog 149 #[s.v, t.v, .func (.func 157) #[] #[]] w (Gr (St.map2 (fun a b => a &&& (4294967295 - b)) s t).v w) := by
  have hcl := fun a b ha hb W => less1_any a b ha hb W
  have hsg := fun q => St.ok_get hs q
  have htg := fun q => St.ok_get ht q
  generalize hr : St.map2 (fun a b => a &&& (4294967295 - b)) s t = r
  have hrg : ∀ q, r.get q = (fun a b => a &&& (4294967295 - b)) (s.get q) (t.get q) := fun q => by rw [← hr, St.map2_get]
  have HR := Lib.hid hrg
  clear hr hrg
  go_enter Tryz.func149, Tryz.ntmps149
  go_wp2
  go_loopw [8] (fun i' wr => ∃ q : Nat, q ≤ 4 ∧ i' = .int .i64 q ∧ Chg Noth w wr ∧ wr.heap[w.heap.size]? = some (.cells (r.upd s q).cells 76 (0, 0)) ∧ wr.heap[w.heap.size + 1]? = some (.cells t.cells 76 (0, 0)) ∧ ∃ cz : Array Value, cz.size = 4 ∧ wr.heap[w.heap.size + 1 + 1]? = some (.cells cz 76 (0, 0))) (fun i' _ => 4 - (intOf i').toNat)
  case atStart =>
    refine ⟨0, by omega, rfl, (by repeat (with_reducible first | exact Chg.refl _ _ | refine chg_m ?_ _ | refine chg_g ?_ _ | refine chg_alloc ?_ _ | refine chg_drew ?_ | refine chg_drewN ?_ _ | refine chg_set ?_ _ _ _)), ?_, ?_, _, ?_, heap_hs _ _ _⟩
    · rw [Below.heap_alloc _ _ _ (by simp <;> omega), Below.heap_alloc _ _ _ (by simp)]
      exact heap_alloc_new _ _
    · rw [Below.heap_alloc _ _ _ (by simp)]
      exact heap_hs _ _ _
    · rfl
  case round =>
    obtain ⟨q, hq, rfl, hc, h3, h4, cz, hz, h6⟩ := hrel
    have l3 := (Array.getElem?_eq_some_iff.1 h3).1
    have l4 := (Array.getElem?_eq_some_iff.1 h4).1
    have l6 := (Array.getElem?_eq_some_iff.1 h6).1
    have j3 : Old w.heap.size wr := ⟨l3⟩
    have j4 : Old (w.heap.size + 1) wr := ⟨l4⟩
    have j6 : Old (w.heap.size + 1 + 1) wr := ⟨l6⟩
    by_cases hlt : q < 4
    · have c3 : wr.cell? ⟨w.heap.size, q, none⟩ = some (u32v (s.get q)) := by rw [cell_of_row _ _ _ _ _ _ h3, St.cells_get _ hlt, St.upd_get _ _ _ hlt]
      have c4 : wr.cell? ⟨w.heap.size + 1, q, none⟩ = some (u32v (t.get q)) := by rw [cell_of_row _ _ _ _ _ _ h4, St.cells_get _ hlt]
      have f3 : wr.frozen? ⟨w.heap.size, q, none⟩ = false := frozen_of_row _ _ _ _ _ h3
      have k3 : HasCell wr w.heap.size q := ⟨by rw [c3]; rfl⟩
      have hcq := hcl _ _ (hsg q) (htg q)
      have hset := heap_setCell_same wr w.heap.size q _ _ (u32v (r.get q)) h3
      rw [St.upd_step _ _ hlt] at hset
      have e4 := (heap_set_far w.heap.size q (w.heap.size + 1) (u32v (r.get q)) (by omega)).trans h4
      have e6 := (heap_set_far w.heap.size q (w.heap.size + 1 + 1) (u32v (r.get q)) (by omega)).trans h6
      have hcs : Chg Noth w (wr.setCell ⟨w.heap.size, q, none⟩ (u32v (r.get q))) := chg_set hc _ _ _
      have HS := Lib.hid (And.intro hset (And.intro e4 (And.intro e6 hcs)))
      rw [← HR.out q] at hcq
      generalize r.get q = rq at *
      generalize s.get q = sq at *
      generalize t.get q = tq at *
      clear h3 h4 h6 hset e4 e6 hcs hc
      go_wp2
      go_region_law (first | (go_simp; go_at_call 157; refine (hcq _).mono ?_; rintro e w' ⟨rfl, hww⟩; have hww := hww.symm; subst hww))
      all_goals
        go_wp2
        exact ⟨⟨q + 1, by omega, by simp, chg_drew HS.out.2.2.2, HS.out.1, HS.out.2.1, cz, hz, HS.out.2.2.1⟩, by simp [intOf]; omega⟩
    · obtain rfl : q = 4 := by omega
      have hrs : r.upd s 4 = r := rfl
      rw [hrs] at h3
      have c0 : wr.cell? ⟨w.heap.size, 0, none⟩ = some (u32v r.a) := by rw [cell_of_row _ _ _ _ _ _ h3]; rfl
      have c1 : wr.cell? ⟨w.heap.size, 1, none⟩ = some (u32v r.b) := by rw [cell_of_row _ _ _ _ _ _ h3]; rfl
      have c2 : wr.cell? ⟨w.heap.size, 2, none⟩ = some (u32v r.c) := by rw [cell_of_row _ _ _ _ _ _ h3]; rfl
      have c3 : wr.cell? ⟨w.heap.size, 3, none⟩ = some (u32v r.d) := by rw [cell_of_row _ _ _ _ _ _ h3]; rfl
      have hzq : ∀ z, (hzz : z < 4) → wr.cell? ⟨w.heap.size + 1 + 1, z, none⟩ = some (cz[z]'(by omega)) ∧ wr.frozen? ⟨w.heap.size + 1 + 1, z, none⟩ = false := fun z hzz => ⟨by rw [cell_of_row _ _ _ _ _ _ h6]; exact Array.getElem?_eq_getElem (by omega), frozen_of_row _ _ _ _ _ h6⟩
      obtain ⟨y0, g0⟩ := hzq 0 (by omega)
      obtain ⟨y1, g1⟩ := hzq 1 (by omega)
      obtain ⟨y2, g2⟩ := hzq 2 (by omega)
      obtain ⟨y3, g3⟩ := hzq 3 (by omega)
      have m0 : HasCell wr (w.heap.size + 1 + 1) 0 := ⟨by rw [y0]; rfl⟩
      have m1 : HasCell wr (w.heap.size + 1 + 1) 1 := ⟨by rw [y1]; rfl⟩
      have m2 : HasCell wr (w.heap.size + 1 + 1) 2 := ⟨by rw [y2]; rfl⟩
      have m3 : HasCell wr (w.heap.size + 1 + 1) 3 := ⟨by rw [y3]; rfl⟩
      clear hzq h3 h4 h6
      have HC := Lib.hid hc
      clear hc
      go_wp2
      exact bodyPost_ret (v := r.v) (by simp [results, Tryz.results149, go_sem]) rfl (gr_mk rfl (by repeat (with_reducible first | exact HC.out | exact Chg.refl _ _ | refine chg_m ?_ _ | refine chg_g ?_ _ | refine chg_alloc ?_ _ | refine chg_drew ?_ | refine chg_drewN ?_ _ | refine chg_set ?_ _ _ _)))

theorem upTo_any (n : Nat) (hn : n ≤ 100) (w : World) : Calls Tryz.prog 150 #[i64 n] w (Gr (St.upTo n).v w) := by
  generalize hr : St.upTo n = r
  have hrg : ∀ q, q < 4 → r.get q = 2 ^ (min (n - q * 32) 32) - 1 := fun q hq => by rw [← hr, St.upTo_get n q hq]
  have HR := Lib.hid hrg
  clear hr hrg
  go_enter Tryz.func150, Tryz.ntmps150
  go_wp2
  go_loopw [6] (fun i' wr => ∃ q : Nat, q ≤ 4 ∧ i' = .int .i64 q ∧ Chg Noth w wr ∧ wr.heap[w.heap.size + 1]? = some (.cells (r.upd ⟨0, 0, 0, 0⟩ q).cells 76 (0, 0)) ∧ ∃ cz : Array Value, cz.size = 4 ∧ wr.heap[w.heap.size]? = some (.cells cz 76 (0, 0))) (fun i' _ => 4 - (intOf i').toNat)
  case atStart =>
    refine ⟨0, by omega, rfl, (by repeat (with_reducible first | exact Chg.refl _ _ | refine chg_m ?_ _ | refine chg_g ?_ _ | refine chg_alloc ?_ _ | refine chg_drew ?_ | refine chg_drewN ?_ _ | refine chg_set ?_ _ _ _)), heap_hs _ _ _, _, ?_, by rw [Below.heap_alloc _ _ _ (by simp)]; exact heap_alloc_new _ _⟩
    rfl
  case round =>
    obtain ⟨q, hq, rfl, hc, h3, cz, hz, h6⟩ := hrel
    have l3 := (Array.getElem?_eq_some_iff.1 h3).1
    have l6 := (Array.getElem?_eq_some_iff.1 h6).1
    have j3 : Old (w.heap.size + 1) wr := ⟨l3⟩
    have j6 : Old w.heap.size wr := ⟨l6⟩
    by_cases hlt : q < 4
    · have c3 : wr.cell? ⟨w.heap.size + 1, q, none⟩ = some (u32v 0) := by rw [cell_of_row _ _ _ _ _ _ h3, St.cells_get _ hlt, St.upd_get _ _ _ hlt]; unfold St.get; split <;> rfl
      have f3 : wr.frozen? ⟨w.heap.size + 1, q, none⟩ = false := frozen_of_row _ _ _ _ _ h3
      have k3 : HasCell wr (w.heap.size + 1) q := ⟨by rw [c3]; rfl⟩
      have H3 := Lib.hid (And.intro h3 (And.intro h6 hc))
      clear h3 h6 hc
      go_wp2
      rw [upTo_val n q, ← HR.out q hlt]
      obtain ⟨h3, h6, hc⟩ := H3.out
      have hset := heap_setCell_same wr (w.heap.size + 1) q _ _ (u32v (r.get q)) h3
      rw [St.upd_step _ _ hlt] at hset
      have e6 := (heap_set_far (w.heap.size + 1) q w.heap.size (u32v (r.get q)) (by omega)).trans h6
      exact ⟨⟨q + 1, by omega, by simp, chg_set hc _ _ _, hset, cz, hz, e6⟩, by simp [intOf]; omega⟩
    · obtain rfl : q = 4 := by omega
      have hrs : r.upd ⟨0, 0, 0, 0⟩ 4 = r := rfl
      rw [hrs] at h3
      have c0 : wr.cell? ⟨w.heap.size + 1, 0, none⟩ = some (u32v r.a) := by rw [cell_of_row _ _ _ _ _ _ h3]; rfl
      have c1 : wr.cell? ⟨w.heap.size + 1, 1, none⟩ = some (u32v r.b) := by rw [cell_of_row _ _ _ _ _ _ h3]; rfl
      have c2 : wr.cell? ⟨w.heap.size + 1, 2, none⟩ = some (u32v r.c) := by rw [cell_of_row _ _ _ _ _ _ h3]; rfl
      have c3 : wr.cell? ⟨w.heap.size + 1, 3, none⟩ = some (u32v r.d) := by rw [cell_of_row _ _ _ _ _ _ h3]; rfl
      have hzq : ∀ z, (hzz : z < 4) → wr.cell? ⟨w.heap.size, z, none⟩ = some (cz[z]'(by omega)) ∧ wr.frozen? ⟨w.heap.size, z, none⟩ = false := fun z hzz => ⟨by rw [cell_of_row _ _ _ _ _ _ h6]; exact Array.getElem?_eq_getElem (by omega), frozen_of_row _ _ _ _ _ h6⟩
      obtain ⟨y0, g0⟩ := hzq 0 (by omega)
      obtain ⟨y1, g1⟩ := hzq 1 (by omega)
      obtain ⟨y2, g2⟩ := hzq 2 (by omega)
      obtain ⟨y3, g3⟩ := hzq 3 (by omega)
      have m0 : HasCell wr w.heap.size 0 := ⟨by rw [y0]; rfl⟩
      have m1 : HasCell wr w.heap.size 1 := ⟨by rw [y1]; rfl⟩
      have m2 : HasCell wr w.heap.size 2 := ⟨by rw [y2]; rfl⟩
      have m3 : HasCell wr w.heap.size 3 := ⟨by rw [y3]; rfl⟩
      clear hzq h3 h6
      have HC := Lib.hid hc
      clear hc
      go_wp2
      exact bodyPost_ret (v := r.v) (by simp [results, Tryz.results150, go_sem]) rfl (gr_mk rfl (by repeat (with_reducible first | exact HC.out | exact Chg.refl _ _ | refine chg_m ?_ _ | refine chg_g ?_ _ | refine chg_alloc ?_ _ | refine chg_drew ?_ | refine chg_drewN ?_ _ | refine chg_set ?_ _ _ _)))
end Go.Proofs.YteemkceceaabkaaGreat
