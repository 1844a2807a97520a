/- Package audit: need, blank, and what an auditor is in memory. -/
import Derived.Test.YteemkceceaabkaaGreatAu
import Derived.Test.YteemkceceaabkaaGreatRh
import Derived.Test.YteemkceceaabkaaGreatSx
import Derived.Deep.DrawnRows
namespace Go.Ear
open Go.RowKit
set_option linter.unusedSimpArgs false

def Nd.cells (x : Nd) : List Value := [.bool x.up, iv x.life, iv x.asked, iv x.tag, iv x.opn, iv 0]
def ncells (l : List Nd) : List Value := l.flatMap Nd.cells
theorem Nd.cells_len (x : Nd) : x.cells.length = 6 := rfl
theorem ncells_len : ∀ l : List Nd, (ncells l).length = l.length * 6
  | [] => rfl
  | x :: l => by
    have := ncells_len l
    simp only [ncells, List.flatMap_cons, List.length_append, List.length_cons, Nd.cells_len] at this ⊢
    omega
theorem ncells_get : ∀ (l : List Nd) (i k : Nat) (x : Nd), l[i]? = some x → k < 6 → (ncells l)[i * 6 + k]? = x.cells[k]?
  | [], i, k, x, h, _ => by simp at h
  | y :: l, 0, k, x, h, hk => by
    simp only [List.getElem?_cons_zero, Option.some.injEq] at h
    subst h
    simp only [ncells, List.flatMap_cons]
    rw [Nat.zero_mul, Nat.zero_add, List.getElem?_append_left (by rw [Nd.cells_len]; exact hk)]
  | y :: l, i + 1, k, x, h, hk => by
    have ih := ncells_get l i k x (by simpa using h) hk
    simp only [ncells, List.flatMap_cons] at ih ⊢
    rw [List.getElem?_append_right (by rw [Nd.cells_len]; omega), Nd.cells_len, show (i + 1) * 6 + k - 6 = i * 6 + k by omega]
    exact ih
theorem ncells_set : ∀ (l : List Nd) (i k : Nat) (x y : Nd) (v : Value), l[i]? = some x → k < 6 → x.cells.set k v = y.cells → (ncells l).set (i * 6 + k) v = ncells (l.set i y)
  | [], i, k, x, y, v, h, _, _ => by simp at h
  | z :: l, 0, k, x, y, v, h, hk, e => by
    simp only [List.getElem?_cons_zero, Option.some.injEq] at h
    subst h
    simp only [ncells, List.flatMap_cons, List.set_cons_zero]
    rw [Nat.zero_mul, Nat.zero_add, List.set_append_left _ _ (by rw [Nd.cells_len]; exact hk), e]
  | z :: l, i + 1, k, x, y, v, h, hk, e => by
    have ih := ncells_set l i k x y v (by simpa using h) hk e
    simp only [ncells, List.flatMap_cons, List.set_cons_succ] at ih ⊢
    rw [List.set_append_right _ _ (by rw [Nd.cells_len]; omega), Nd.cells_len, show (i + 1) * 6 + k - 6 = i * 6 + k by omega, ih]

/-- Events one behind the other, in cells. -/
theorem Ev.ext_iff' (x y : Ev) : x = y ↔ x.kind = y.kind ∧ x.node = y.node ∧ x.life = y.life ∧ x.round = y.round ∧ x.tag = y.tag ∧ x.of = y.of ∧ x.dur = y.dur ∧ x.heard = y.heard ∧ x.union = y.union := by
  cases x
  cases y
  simp
theorem St.ext_iff' (x y : St) : x = y ↔ x.a = y.a ∧ x.b = y.b ∧ x.c = y.c ∧ x.d = y.d := by
  cases x
  cases y
  simp
end Go.Ear
namespace Go.Proofs.YteemkceceaabkaaGreat
open Go.RowKit Go.Ear
set_option maxHeartbeats 1000000
set_option maxRecDepth 40000
set_option linter.unusedSimpArgs false

theorem fieldsEv : (Tryz.prog.fieldsOf 78).toList.map (fun f => (f.name, f.type, f.offset)) = [("Kind", 3, 0), ("Node", 3, 1), ("Life", 3, 2), ("Round", 3, 3), ("Tag", 3, 4), ("Of", 3, 5), ("Durable", 3, 6), ("Heard", 76, 7), ("Union", 76, 11)] := by kernel_rfl
theorem structEv : Tryz.prog.underlying 78 = some (.struct (Tryz.prog.fieldsOf 78)) := by kernel_rfl
theorem heldEv : Tryz.prog.stoodInHeld 78 = false := by kernel_rfl
theorem guardEv : Tryz.prog.eqGuardType Tryz.prog.depth 78 = false := by kernel_rfl
/-- Fields one behind the other, told by a list. -/
theorem eqF_cons {P : Program} {d : Nat} {xs ys : Array Value} {f : Field} {fs : List Field} {a b : Value} {r : Bool} {w : World} (hn : f.name ≠ "_") (ha : (part f.type xs f.offset).run P w = .ok a w) (hb : (part f.type ys f.offset).run P w = .ok b w)
    (he : (Op.equalIn d f.type a b).run P w = .ok r w) : (Op.eqFields d xs ys (f :: fs)).run P w = if r then (Op.eqFields d xs ys fs).run P w else .ok false w := by
  simp only [Op.eqFields, hn, ne_eq, not_false_eq_true, if_true, Sem.run_bind, ha, hb, he, Result.andThen_ok]
  cases r <;> simp
theorem part_i64 (w : World) (xs : Array Value) (i : Nat) (n : Int) (h : xs[i]? = some (iv n)) : (part 3 xs i).run Tryz.prog w = .ok (iv n) w := by
  simp [part, isAgg, run_underlying Tryz.underlying3, h]
theorem part_set (w : World) (xs : Array Value) (i : Nat) (s : St) (h : (xs.extract i (i + 4)) = s.cells) : (part 76 xs i).run Tryz.prog w = .ok s.v w := by
  have hc : Tryz.prog.cellsOf 76 = 4 := by kernel_rfl
  have hi : ∃ i, Tryz.prog.info? 76 = some i := by
    cases h : Tryz.prog.info? 76 with
    | none => simp [Program.cellsOf, h] at hc
    | some i => exact ⟨i, rfl⟩
  obtain ⟨i0, hi0⟩ := hi
  have hsz := run_sizeOf (P := Tryz.prog) w hi0
  rw [hc] at hsz
  simp [part, isAgg, run_underlying Tryz.underlying76, hsz, h]
theorem eqEv (w : World) (x y : Ev) : (Op.equalIn 10000 78 x.v y.v).run Tryz.prog w = .ok (decide (x = y)) w := by
  rw [run_equalIn_struct w 9999 78 _ _ structEv heldEv]
  have hf := fieldsEv
  generalize (Tryz.prog.fieldsOf 78).toList = fs at hf
  have hl : fs.length = 9 := by simpa using congrArg List.length hf
  match fs, hl, hf with
  | [f0, f1, f2, f3, f4, f5, f6, f7, f8], _, hf =>
    simp only [List.map_cons, List.map_nil, List.cons.injEq, Prod.mk.injEq, and_true] at hf
    obtain ⟨⟨n0, t0, o0⟩, ⟨n1, t1, o1⟩, ⟨n2, t2, o2⟩, ⟨n3, t3, o3⟩, ⟨n4, t4, o4⟩, ⟨n5, t5, o5⟩, ⟨n6, t6, o6⟩, ⟨n7, t7, o7⟩, ⟨n8, t8, o8⟩⟩ := hf
    have ei : ∀ (a b : Int) (w : World), (Op.equalIn 9999 3 (iv a) (iv b)).run Tryz.prog w = .ok (decide (a = b)) w := fun a b w => by
      rw [run_equalIn_int w 9998 3 .i64 .i64 _ _ Tryz.underlying3]
      congr 1
    have es : ∀ (s t : St) (w : World), (Op.equalIn 9999 76 s.v t.v).run Tryz.prog w = .ok (decide (s = t)) w := fun s t w => by
      obtain ⟨i0, hi, hz0, hz1, hz2⟩ := info_parts infoU32
      rw [equal_set w 9997 76 74 i0 Tryz.underlying76 Tryz.underlying74 hi cellsU32]
      congr 1
      exact decide_eq_decide.2 (St.ext_iff' s t).symm
    rw [eqF_cons (by rw [n0]; decide) (by rw [t0, o0]; exact part_i64 w _ 0 x.kind rfl) (by rw [t0, o0]; exact part_i64 w _ 0 y.kind rfl) (by rw [t0]; exact ei _ _ w)]
    rw [eqF_cons (by rw [n1]; decide) (by rw [t1, o1]; exact part_i64 w _ 1 x.node rfl) (by rw [t1, o1]; exact part_i64 w _ 1 y.node rfl) (by rw [t1]; exact ei _ _ w)]
    rw [eqF_cons (by rw [n2]; decide) (by rw [t2, o2]; exact part_i64 w _ 2 x.life rfl) (by rw [t2, o2]; exact part_i64 w _ 2 y.life rfl) (by rw [t2]; exact ei _ _ w)]
    rw [eqF_cons (by rw [n3]; decide) (by rw [t3, o3]; exact part_i64 w _ 3 x.round rfl) (by rw [t3, o3]; exact part_i64 w _ 3 y.round rfl) (by rw [t3]; exact ei _ _ w)]
    rw [eqF_cons (by rw [n4]; decide) (by rw [t4, o4]; exact part_i64 w _ 4 x.tag rfl) (by rw [t4, o4]; exact part_i64 w _ 4 y.tag rfl) (by rw [t4]; exact ei _ _ w)]
    rw [eqF_cons (by rw [n5]; decide) (by rw [t5, o5]; exact part_i64 w _ 5 x.of rfl) (by rw [t5, o5]; exact part_i64 w _ 5 y.of rfl) (by rw [t5]; exact ei _ _ w)]
    rw [eqF_cons (by rw [n6]; decide) (by rw [t6, o6]; exact part_i64 w _ 6 x.dur rfl) (by rw [t6, o6]; exact part_i64 w _ 6 y.dur rfl) (by rw [t6]; exact ei _ _ w)]
    rw [eqF_cons (by rw [n7]; decide) (by rw [t7, o7]; exact part_set w _ 7 x.heard rfl) (by rw [t7, o7]; exact part_set w _ 7 y.heard rfl) (by rw [t7]; exact es _ _ w)]
    rw [eqF_cons (by rw [n8]; decide) (by rw [t8, o8]; exact part_set w _ 11 x.union rfl) (by rw [t8, o8]; exact part_set w _ 11 y.union rfl) (by rw [t8]; exact es _ _ w)]
    have hex := Ev.ext_iff' x y
    simp only [Op.eqFields, Sem.run_pure, decide_eq_true_eq]
    by_cases hxy : x = y
    · subst hxy
      simp
    · have hn := fun h => hxy (hex.2 h)
      rw [decide_eq_false hxy]
      repeat' split
      all_goals first | rfl | (exfalso; exact hn ⟨‹_›, ‹_›, ‹_›, ‹_›, ‹_›, ‹_›, ‹_›, ‹_›, ‹_›⟩)

theorem need_yes (w : World) : Calls Tryz.prog 143 #[.bool true] w fun e w' => e = .returned (.tuple #[]) ∧ w' = w := by
  go_enter Tryz.func143, Tryz.ntmps143
  go_wp2
  go_end0
  exact ⟨rfl, rfl⟩
/-- What need gives up with. -/
def gaveUp : List PanicEntry := [{ v := .iface 175 (.agg #[]), recovered := false }]
theorem need_no (w : World) : Calls Tryz.prog 143 #[.bool false] w fun e w' => e = .panicked gaveUp ∧ w' = w := by
  go_enter Tryz.func143, Tryz.ntmps143
  go_wp2
  exact ⟨rfl, rfl, rfl⟩
def Ev.blank (e : Ev) : Ev := ⟨0, 0, 0, e.round, e.tag, e.of, e.dur, e.heard, e.union⟩
theorem blank_any (x : Ev) (w : World) : Calls Tryz.prog 144 #[x.v] w (Gr (Ev.blank x).v w) := by
  go_enter Tryz.func144, Tryz.ntmps144
  go_wp2
  exact bodyPost_ret (v := (Ev.blank x).v) (by simp [results, Tryz.results144, go_sem, Ev.blank]) rfl (gr_mk rfl (by repeat (with_reducible first | exact Chg.refl _ _ | refine chg_m ?_ _ | refine chg_g ?_ _ | refine chg_alloc ?_ _ | refine chg_drew ?_ | refine chg_drewN ?_ _ | refine chg_set ?_ _ _ _)))
end Go.Proofs.YteemkceceaabkaaGreat
