/- offends: whether an event offends; the auditor goes on behind one that does not. -/
import Derived.Test.YteemkceceaabkaaGreatAec
import Derived.Test.YteemkceceaabkaaGreatAed
namespace Go.Proofs.YteemkceceaabkaaGreat
open Go.RowKit Go.Ear
set_option maxHeartbeats 4000000
set_option maxRecDepth 100000
set_option linter.unusedSimpArgs false
set_option linter.unusedVariables false
/-- What offends comes to. -/
def Offends (w : World) (p q n f : Nat) (r : Option Au) : Ending → World → Prop := fun en w' =>
  Chg (pq p q) w w' ∧ ((r = none ∧ en = .returned (.bool true)) ∨ ∃ s', r = some s' ∧ en = .returned (.bool false) ∧ AuIs w' p q n f s')
theorem offends_any (w : World) (p q n f : Nat) (s : Au) (e : Ev) (hA : AuIs w p q n f s) (he : e.ok) :
    Calls Tryz.prog 98 #[.pointer (some ⟨p, 0, none⟩), e.v] w (Offends w p q n f (s.step n f e)) := by
  have hmf : ∀ (fn : Fn) (first cap : Array Value) (w : World), (Instr.makeFunc fn first cap).run Tryz.prog w = .ok (.func fn first cap) w := fun _ _ _ _ => rfl
  have hev := fun W h => event_any W p q n f s e h he
  generalize s.step n f e = r at *
  have jp : Old p w := ⟨hA.ltp⟩
  have jq : Old q w := ⟨hA.ltq⟩
  have hpw := jp.lt
  have hqw := jq.lt
  have HA := Lib.hid hA
  clear hA
  obtain ⟨kind, node, life, round, tag, of, dur, ⟨ha, hb, hc, hd⟩, ⟨ua, ub, uc, ud⟩⟩ := e
  change Calls _ _ #[_, .agg #[iv kind, iv node, iv life, iv round, iv tag, iv of, iv dur, u32v ha, u32v hb, u32v hc, u32v hd, u32v ua, u32v ub, u32v uc, u32v ud]] _ _
  go_enter_defers Tryz.func98, Tryz.ntmps98
  go_wp2_with fail
  refine (hev _ (HA.out.grow (by repeat (with_reducible first | exact Chg.refl _ _ | refine chg_m ?_ _ | refine chg_g ?_ _ | refine chg_alloc ?_ _ | refine chg_drew ?_ | refine chg_drewN ?_ _ | refine chg_set ?_ _ _ _)))).mono ?_
  rintro en X ⟨hC, ⟨hr, rfl⟩ | ⟨s', hr, rfl, hA2⟩⟩
  all_goals
    have hCw : Chg (pq p q) w X := Chg.trans (G := pq p q) (by repeat (with_reducible first | exact Chg.refl _ _ | refine chg_m ?_ _ | refine chg_g ?_ _ | refine chg_alloc ?_ _ | refine chg_drew ?_ | refine chg_drewN ?_ _ | refine chg_set ?_ _ _ _)) hC (fun _ _ h => h)
    obtain ⟨m, rfl⟩ := muts_ex hC
    have io : Out (w.heap.size + 1) (pq p q) := ⟨fun h => by rcases h with h | h <;> omega⟩
    have hlt : w.heap.size + 1 < m.w.heap.size := (inferInstance : Old (w.heap.size + 1) m.w).lt
  · go_wp2
    refine leaves_cons (f := 133) (args := #[.pointer (some ⟨w.heap.size + 1, 0, none⟩)]) (by simp) (by simp [go_sem]) ?_
    refine (catch_panicking (w.heap.size + 1) false _ (by simp [go_sem]) (by simp [go_sem]) hlt).mono ?_
    rintro e u' w'' ⟨rfl, rfl, hc2, hcell⟩
    subst hr
    have HP : Offends w p q n f none (.returned (.bool true)) w'' := ⟨hCw.trans hc2 (fun i hi e => by omega), .inl ⟨rfl, rfl⟩⟩
    have HP := Lib.hid HP
    simp [Leaves, settle, results, Tryz.results98, go_sem, hcell]
    exact HP.out
  · go_wp2
    refine leaves_cons (f := 133) (args := #[.pointer (some ⟨w.heap.size + 1, 0, none⟩)]) (by simp) (by simp [go_sem]) ?_
    refine (catch_idle (w.heap.size + 1) _).mono ?_
    rintro e u' w'' ⟨rfl, rfl, hc2⟩
    have hpm := hA2.ltp
    have hqm := hA2.ltq
    have hsz : (m.w.setCell ⟨w.heap.size + 1, 0, none⟩ (.bool false)).heap.size = m.w.heap.size := by simp [World.setCell]
    have hcell : w''.cell? ⟨w.heap.size + 1, 0, none⟩ = some (.bool false) := by
      rw [hc2.cell (p := ⟨w.heap.size + 1, 0, none⟩) (by rw [hsz]; exact hlt) (fun e => e)]
      simp [go_sem]
    have hA3 : AuIs w'' p q n f s' := hA2.keep ((hc2.block p (by rw [hsz]; exact hpm) (fun e => e)).trans (heap_set_far _ _ _ _ (by omega))) ((hc2.block q (by rw [hsz]; exact hqm) (fun e => e)).trans (heap_set_far _ _ _ _ (by omega)))
    subst hr
    have mb : May (w.heap.size + 1) (fun k => k = w.heap.size + 1) m.w := ⟨.inl rfl⟩
    have hset : Chg (fun k => k = w.heap.size + 1) m.w (m.w.setCell ⟨w.heap.size + 1, 0, none⟩ (.bool false)) := chg_set (Chg.refl _ _) _ _ _
    have hC2 : Chg (pq p q) w (m.w.setCell ⟨w.heap.size + 1, 0, none⟩ (.bool false)) := hCw.trans hset (fun i hi e => by omega)
    have HP : Offends w p q n f (some s') (.returned (.bool false)) w'' := ⟨hC2.trans hc2 (fun _ _ e => e.elim), .inr ⟨s', rfl, rfl, hA3⟩⟩
    have HP := Lib.hid HP
    clear hA3
    simp [Leaves, settle, results, Tryz.results98, go_sem, hcell]
    exact HP.out
end Go.Proofs.YteemkceceaabkaaGreat
