/- An auditor in memory. -/
import Derived.Test.YteemkceceaabkaaGreatAw
namespace Go.Proofs.YteemkceceaabkaaGreat
open Go.RowKit Go.Ear
set_option maxHeartbeats 1000000
set_option maxRecDepth 40000
set_option linter.unusedSimpArgs false

/-- The blocks an auditor writes. -/
def pq (p q : Nat) : Nat → Prop := fun k => k = p ∨ k = q
/-- An auditor's cells. -/
abbrev aucells (q n f : Nat) (s : Au) : Array Value := #[iv n, iv f, .slice (some ⟨q, 0, none⟩) n n, .bool s.row, iv s.shut.kind, iv s.shut.node, iv s.shut.life, iv s.shut.round, iv s.shut.tag, iv s.shut.of, iv s.shut.dur, u32v s.shut.heard.a, u32v s.shut.heard.b, u32v s.shut.heard.c, u32v s.shut.heard.d, u32v s.shut.union.a, u32v s.shut.union.b, u32v s.shut.union.c, u32v s.shut.union.d, iv s.last]
/-- Block p is an auditor, block q its nodes. -/
structure AuIs (w : World) (p q n f : Nat) (s : Au) : Prop where
  ne : p ≠ q
  hp : w.heap[p]? = some (.cells (aucells q n f s) 129 (0, 0))
  hq : w.heap[q]? = some (.cells (ncells s.nodes).toArray 183 (0, 0))
  len : s.nodes.length = n
  n100 : n ≤ 100
  fn : f < n
  shut : s.shut.ok
theorem AuIs.keep {w w' : World} {p q n f : Nat} {s : Au} (h : AuIs w p q n f s) (hp : w'.heap[p]? = w.heap[p]?) (hq : w'.heap[q]? = w.heap[q]?) : AuIs w' p q n f s :=
  ⟨h.ne, hp.trans h.hp, hq.trans h.hq, h.len, h.n100, h.fn, h.shut⟩
theorem AuIs.ltp {w : World} {p q n f : Nat} {s : Au} (h : AuIs w p q n f s) : p < w.heap.size := (Array.getElem?_eq_some_iff.1 h.hp).1
theorem AuIs.ltq {w : World} {p q n f : Nat} {s : Au} (h : AuIs w p q n f s) : q < w.heap.size := (Array.getElem?_eq_some_iff.1 h.hq).1
theorem AuIs.grow {w w' : World} {p q n f : Nat} {s : Au} (h : AuIs w p q n f s) (hc : Chg Noth w w') : AuIs w' p q n f s :=
  h.keep (hc.block _ h.ltp (fun e => e)) (hc.block _ h.ltq (fun e => e))
/-- The cells of an auditor. -/
theorem AuIs.cellp {w : World} {p q n f : Nat} {s : Au} (h : AuIs w p q n f s) (k : Nat) (v : Value) (hv : (aucells q n f s)[k]? = some v) :
    w.cell? ⟨p, k, none⟩ = some v ∧ w.frozen? ⟨p, k, none⟩ = false ∧ HasCell w p k := by
  have hc : w.cell? ⟨p, k, none⟩ = some v := (cell_of_row _ _ _ _ _ _ h.hp).trans hv
  exact ⟨hc, frozen_of_row _ _ _ _ _ h.hp, ⟨by rw [hc]; rfl⟩⟩
theorem AuIs.cellq {w : World} {p q n f : Nat} {s : Au} (h : AuIs w p q n f s) (i k : Nat) (x : Nd) (v : Value) (hx : s.nodes[i]? = some x) (hk : k < 6) (hv : x.cells[k]? = some v) :
    w.cell? ⟨q, i * 6 + k, none⟩ = some v ∧ w.frozen? ⟨q, i * 6 + k, none⟩ = false ∧ HasCell w q (i * 6 + k) := by
  have hc : w.cell? ⟨q, i * 6 + k, none⟩ = some v := by
    rw [cell_of_row _ _ _ _ _ _ h.hq, List.getElem?_toArray, ncells_get _ _ _ _ hx hk, hv]
  exact ⟨hc, frozen_of_row _ _ _ _ _ h.hq, ⟨by rw [hc]; rfl⟩⟩
/-- A store into a node. -/
theorem AuIs.setq {w : World} {p q n f : Nat} {s : Au} (h : AuIs w p q n f s) (i k : Nat) (x y : Nd) (v : Value) (hx : s.nodes[i]? = some x) (hk : k < 6) (hv : x.cells.set k v = y.cells) :
    AuIs (w.setCell ⟨q, i * 6 + k, none⟩ v) p q n f ⟨s.nodes.set i y, s.row, s.shut, s.last⟩ := by
  refine ⟨h.ne, ?_, ?_, by simpa using h.len, h.n100, h.fn, h.shut⟩
  · rw [heap_setCell_other _ _ _ _ (by simpa using h.ne)]
    exact h.hp
  · have := heap_setCell_same w q (i * 6 + k) _ _ v h.hq
    rw [this]
    have e := ncells_set s.nodes i k x y v hx hk hv
    simp only [← e]
    congr 3
    simp
theorem AuIs.drew {w : World} {p q n f : Nat} {s : Au} (h : AuIs w p q n f s) : AuIs w.drew p q n f s := h.keep rfl rfl
theorem AuIs.at {w : World} {p q n f i : Nat} {s : Au} {x : Nd} (hx : s.nodes[i]? = some x) (h : AuIs w p q n f s) : AuIs w p q n f ⟨s.nodes.set i x, s.row, s.shut, s.last⟩ := by
  have e : s.nodes.set i x = s.nodes := by
    obtain ⟨hl, hv⟩ := List.getElem?_eq_some_iff.1 hx
    rw [← hv, List.set_getElem_self]
  rw [e]
  exact h
theorem AuIs.setq' {w : World} {p q n f i : Nat} {l : List Nd} {r : Bool} {sh : Ev} {la : Int} (k : Nat) (x y : Nd) (v : Value) (hk : k < 6) (hv : x.cells.set k v = y.cells) (hi : i < l.length)
    (h : AuIs w p q n f ⟨l.set i x, r, sh, la⟩) : AuIs (w.setCell ⟨q, i * 6 + k, none⟩ v) p q n f ⟨l.set i y, r, sh, la⟩ := by
  have := h.setq i k x y v (by simp [hi]) hk hv
  simpa using this
theorem AuIs.setp {w : World} {p q n f : Nat} {s s' : Au} (k : Nat) (v : Value) (hv : (aucells q n f s).setIfInBounds k v = aucells q n f s') (hn : s'.nodes = s.nodes) (hs : s'.shut.ok) (h : AuIs w p q n f s) : AuIs (w.setCell ⟨p, k, none⟩ v) p q n f s' := by
  refine ⟨h.ne, ?_, ?_, by rw [hn]; exact h.len, h.n100, h.fn, hs⟩
  · rw [heap_setCell_same w p k _ _ v h.hp, hv]
  · rw [heap_setCell_other _ _ _ _ (by simpa using Ne.symm h.ne), hn]
    exact h.hq
/-- What a method of an auditor comes to. -/
def Looked (w : World) (p q n f : Nat) (ok : Prop) (s' : Au) : Ending → World → Prop := fun e w' =>
  Chg (pq p q) w w' ∧ ((ok ∧ e = .returned (.tuple #[]) ∧ AuIs w' p q n f s') ∨ (¬ ok ∧ e = .panicked gaveUp))
theorem AuIs.setshut {w : World} {p q n f : Nat} {s : Au} {e : Ev} (he : e.ok) (h : AuIs w p q n f s) : AuIs (((((((((((((((w.setCell ⟨p, 4, none⟩ (iv e.kind)).setCell ⟨p, 5, none⟩ (iv e.node)).setCell ⟨p, 6, none⟩ (iv e.life)).setCell ⟨p, 7, none⟩ (iv e.round)).setCell ⟨p, 8, none⟩ (iv e.tag)).setCell ⟨p, 9, none⟩ (iv e.of)).setCell ⟨p, 10, none⟩ (iv e.dur)).setCell ⟨p, 11, none⟩ (u32v e.heard.a)).setCell ⟨p, 12, none⟩ (u32v e.heard.b)).setCell ⟨p, 13, none⟩ (u32v e.heard.c)).setCell ⟨p, 14, none⟩ (u32v e.heard.d)).setCell ⟨p, 15, none⟩ (u32v e.union.a)).setCell ⟨p, 16, none⟩ (u32v e.union.b)).setCell ⟨p, 17, none⟩ (u32v e.union.c)).setCell ⟨p, 18, none⟩ (u32v e.union.d)) p q n f ⟨s.nodes, s.row, e, s.last⟩ := by
  have h3 := h.hp
  unfold aucells at h3
  have h4 := heap_setCell_same _ p 4 _ _ (iv e.kind) h3
  simp only [List.setIfInBounds_toArray, List.set_cons_succ, List.set_cons_zero] at h4
  have h5 := heap_setCell_same _ p 5 _ _ (iv e.node) h4
  simp only [List.setIfInBounds_toArray, List.set_cons_succ, List.set_cons_zero] at h5
  have h6 := heap_setCell_same _ p 6 _ _ (iv e.life) h5
  simp only [List.setIfInBounds_toArray, List.set_cons_succ, List.set_cons_zero] at h6
  have h7 := heap_setCell_same _ p 7 _ _ (iv e.round) h6
  simp only [List.setIfInBounds_toArray, List.set_cons_succ, List.set_cons_zero] at h7
  have h8 := heap_setCell_same _ p 8 _ _ (iv e.tag) h7
  simp only [List.setIfInBounds_toArray, List.set_cons_succ, List.set_cons_zero] at h8
  have h9 := heap_setCell_same _ p 9 _ _ (iv e.of) h8
  simp only [List.setIfInBounds_toArray, List.set_cons_succ, List.set_cons_zero] at h9
  have h10 := heap_setCell_same _ p 10 _ _ (iv e.dur) h9
  simp only [List.setIfInBounds_toArray, List.set_cons_succ, List.set_cons_zero] at h10
  have h11 := heap_setCell_same _ p 11 _ _ (u32v e.heard.a) h10
  simp only [List.setIfInBounds_toArray, List.set_cons_succ, List.set_cons_zero] at h11
  have h12 := heap_setCell_same _ p 12 _ _ (u32v e.heard.b) h11
  simp only [List.setIfInBounds_toArray, List.set_cons_succ, List.set_cons_zero] at h12
  have h13 := heap_setCell_same _ p 13 _ _ (u32v e.heard.c) h12
  simp only [List.setIfInBounds_toArray, List.set_cons_succ, List.set_cons_zero] at h13
  have h14 := heap_setCell_same _ p 14 _ _ (u32v e.heard.d) h13
  simp only [List.setIfInBounds_toArray, List.set_cons_succ, List.set_cons_zero] at h14
  have h15 := heap_setCell_same _ p 15 _ _ (u32v e.union.a) h14
  simp only [List.setIfInBounds_toArray, List.set_cons_succ, List.set_cons_zero] at h15
  have h16 := heap_setCell_same _ p 16 _ _ (u32v e.union.b) h15
  simp only [List.setIfInBounds_toArray, List.set_cons_succ, List.set_cons_zero] at h16
  have h17 := heap_setCell_same _ p 17 _ _ (u32v e.union.c) h16
  simp only [List.setIfInBounds_toArray, List.set_cons_succ, List.set_cons_zero] at h17
  have h18 := heap_setCell_same _ p 18 _ _ (u32v e.union.d) h17
  simp only [List.setIfInBounds_toArray, List.set_cons_succ, List.set_cons_zero] at h18
  refine ⟨h.ne, h18.trans rfl, ?_, h.len, h.n100, h.fn, he⟩
  have hne := h.ne
  repeat rw [heap_setCell_other _ _ _ _ (by simpa using Ne.symm hne)]
  exact h.hq
theorem AuIs.setshut' {w : World} {p q n f : Nat} {s : Au} {kind node life round tag of dur : Int} {ha hb hc hd ua ub uc ud : Nat} (he : Ev.ok ⟨kind, node, life, round, tag, of, dur, ⟨ha, hb, hc, hd⟩, ⟨ua, ub, uc, ud⟩⟩) (h : AuIs w p q n f s) : AuIs (((((((((((((((w.setCell ⟨p, 4, none⟩ (.int .i64 kind)).setCell ⟨p, 5, none⟩ (.int .i64 node)).setCell ⟨p, 6, none⟩ (.int .i64 life)).setCell ⟨p, 7, none⟩ (.int .i64 round)).setCell ⟨p, 8, none⟩ (.int .i64 tag)).setCell ⟨p, 9, none⟩ (.int .i64 of)).setCell ⟨p, 10, none⟩ (.int .i64 dur)).setCell ⟨p, 11, none⟩ (.int .u32 (ha : Nat))).setCell ⟨p, 12, none⟩ (.int .u32 (hb : Nat))).setCell ⟨p, 13, none⟩ (.int .u32 (hc : Nat))).setCell ⟨p, 14, none⟩ (.int .u32 (hd : Nat))).setCell ⟨p, 15, none⟩ (.int .u32 (ua : Nat))).setCell ⟨p, 16, none⟩ (.int .u32 (ub : Nat))).setCell ⟨p, 17, none⟩ (.int .u32 (uc : Nat))).setCell ⟨p, 18, none⟩ (.int .u32 (ud : Nat))) p q n f ⟨s.nodes, s.row, ⟨kind, node, life, round, tag, of, dur, ⟨ha, hb, hc, hd⟩, ⟨ua, ub, uc, ud⟩⟩, s.last⟩ := by
  have := AuIs.setshut he h
  exact this
theorem max_ite (a b : Int) : (if a < b then b else a) = max a b := by omega
theorem may_p (w : World) (p q : Nat) : May p (pq p q) w := ⟨.inl (.inl rfl)⟩
theorem may_q (w : World) (p q : Nat) : May q (pq p q) w := ⟨.inl (.inr rfl)⟩
end Go.Proofs.YteemkceceaabkaaGreat
