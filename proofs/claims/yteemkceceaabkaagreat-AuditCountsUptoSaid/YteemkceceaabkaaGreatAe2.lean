/- The auditor's event at an event that does not stand at its place. -/
import Derived.Test.YteemkceceaabkaaGreatAe0
import Derived.Test.YteemkceceaabkaaGreatAdz
namespace Go.Proofs.YteemkceceaabkaaGreat
open Go.RowKit Go.Ear Go.ChangeMaps
set_option maxHeartbeats 8000000
set_option maxRecDepth 100000
set_option linter.unusedSimpArgs false
set_option linter.unusedVariables false
attribute [local go_sem ↓] Go.wp_at_zero Go.wp_at_succ

theorem event_off1 (w : World) (p q n f i : Nat) (nodes : List Nd) (shut : Ev) (last : Int) (kind life round tag of dur : Int) (ha hb hc hd ua ub uc ud : Nat) (up : Bool) (xlife asked xtag opn : Int)
    (hA : AuIs w p q n f ⟨nodes, true, shut, last⟩) (hx : nodes[i]? = some ⟨up, xlife, asked, xtag, opn⟩) (he : Ev.ok (⟨kind, (i : Int), life, round, tag, of, dur, ⟨ha, hb, hc, hd⟩, ⟨ua, ub, uc, ud⟩⟩ : Ev)) (hfit : Ev.fit n (⟨kind, (i : Int), life, round, tag, of, dur, ⟨ha, hb, hc, hd⟩, ⟨ua, ub, uc, ud⟩⟩ : Ev)) (hk2 : ¬ kind = 2) (hk4 : ¬ kind = 4) :
    Calls Tryz.prog 134 #[.pointer (some ⟨p, 0, none⟩), .agg #[iv kind, iv (i : Int), iv life, iv round, iv tag, iv of, iv dur, u32v ha, u32v hb, u32v hc, u32v hd, u32v ua, u32v ub, u32v uc, u32v ud]] w (Went w p q n f (Au.step n f ⟨nodes, true, shut, last⟩ (⟨kind, (i : Int), life, round, tag, of, dur, ⟨ha, hb, hc, hd⟩, ⟨ua, ub, uc, ud⟩⟩ : Ev))) := by
  have hil := (List.getElem?_eq_some_iff.1 hx).1
  have hlen := hA.len
  simp only at hlen
  have hin : (i : Int) < (n : Int) := by omega
  have hi0 : (0 : Int) ≤ (i : Int) := by omega
  have hinn : i < n := by omega
  have hl1 := hfit.2.2.2.2.1
  have hl2 := hfit.2.2.2.2.2
  simp only at hl1 hl2
  have h100 := hA.n100
  have hfn := hA.fn
  have jp : Old p w := ⟨hA.ltp⟩
  have jq : Old q w := ⟨hA.ltq⟩
  have mp := may_p w p q
  have mq := may_q w p q
  have hne := hA.ne
  obtain ⟨cp0, fp0, kp0⟩ := hA.cellp 0 (iv n) rfl
  obtain ⟨cp2, fp2, kp2⟩ := hA.cellp 2 (.slice (some ⟨q, 0, none⟩) n n) rfl
  obtain ⟨cp3, fp3, kp3⟩ := hA.cellp 3 (.bool true) rfl
  obtain ⟨cp5, fp5, kp5⟩ := hA.cellp 5 (iv shut.node) rfl
  obtain ⟨cp19, fp19, kp19⟩ := hA.cellp 19 (iv last) rfl
  obtain ⟨cq0, fq0, kq0⟩ := hA.cellq i 0 _ (.bool up) hx (by omega) rfl
  obtain ⟨cq1, fq1, kq1⟩ := hA.cellq i 1 _ (iv xlife) hx (by omega) rfl
  obtain ⟨cq2, fq2, kq2⟩ := hA.cellq i 2 _ (iv asked) hx (by omega) rfl
  obtain ⟨cq3, fq3, kq3⟩ := hA.cellq i 3 _ (iv xtag) hx (by omega) rfl
  obtain ⟨cq4, fq4, kq4⟩ := hA.cellq i 4 _ (iv opn) hx (by omega) rfl
  obtain ⟨cq5, fq5, kq5⟩ := hA.cellq i 5 _ (iv 0) hx (by omega) rfl
  simp only [Nat.add_zero] at cq0 fq0 kq0
  have hms : ∃ v, mlook (kindsOf p) kind = some v := by
    have h1 := hfit.1
    have h2 := hfit.2.1
    simp only at h1 h2
    rcases (show kind = 1 ∨ kind = 2 ∨ kind = 3 ∨ kind = 4 ∨ kind = 5 ∨ kind = 6 by omega) with rfl | rfl | rfl | rfl | rfl | rfl <;> exact ⟨_, rfl⟩
  obtain ⟨v, hv⟩ := hms
  have hlk := kinds_some (w.alloc (.cells #[iv kind, iv (i : Int), iv life, iv round, iv tag, iv of, iv dur, u32v ha, u32v hb, u32v hc, u32v hd, u32v ua, u32v ub, u32v uc, u32v ud] 78)) p (w.heap.size + 1) (by simp) kind v hv
  clear hv
  obtain ⟨u1, u2, u3, u4, u5, u6⟩ := ups (w.alloc (.cells #[iv kind, iv (i : Int), iv life, iv round, iv tag, iv of, iv dur, u32v ha, u32v hb, u32v hc, u32v hd, u32v ua, u32v ub, u32v uc, u32v ud] 78)) p (w.heap.size + 1) (by simp)
  simp only [mv, ent, F1, F2, F3, F4, F5, F6] at u1 u2 u3 u4 u5 u6
  have hmf : ∀ (fn : Fn) (first cap : Array Value) (w : World), (Instr.makeFunc fn first cap).run Tryz.prog w = .ok (.func fn first cap) w := fun _ _ _ _ => rfl
  have hmm := @run_makeMap Tryz.prog
  simp only [kindsObj, mv, ent, F1, F2, F3, F4, F5, F6] at u6 hlk
  have HNO : Hid (Au.step n f ⟨nodes, true, shut, last⟩ (⟨kind, (i : Int), life, round, tag, of, dur, ⟨ha, hb, hc, hd⟩, ⟨ua, ub, uc, ud⟩⟩ : Ev) = none) := Lib.hid (step_no rfl hx (by rintro ⟨⟨h, _⟩, _⟩; rcases (h rfl).1 with h | h; exact hk4 h; exact hk2 h))
  generalize Au.step n f ⟨nodes, true, shut, last⟩ (⟨kind, (i : Int), life, round, tag, of, dur, ⟨ha, hb, hc, hd⟩, ⟨ua, ub, uc, ud⟩⟩ : Ev) = r at *
  have y1 : (kind == 4) = false := by rw [beq_eq_false_iff_ne]; exact hk4
  have y2 : (kind == 2) = false := by rw [beq_eq_false_iff_ne]; exact hk2
  clear hk2 hk4
  clear hA hx he hfit hlen hil
  go_enter Tryz.func134, Tryz.ntmps134
  go_wp2
  refine wp_region_head_call 25 (by kernel_rfl) (by kernel_rfl) ?_
  simp only [List.take_succ_cons, List.take_zero]
  repeat (go_big_quiet_step ((fail)))
  refine wpQuiet_nil ?_
  intro gN o ho
  simp only [List.getElem?_cons_succ, List.getElem?_cons_zero, Option.some.injEq] at ho
  subst ho
  simp only [List.drop_succ_cons, List.drop_zero]
  go_simp
  go_at_call 143
  refine (need_yes _).mono ?_
  rintro e' w' ⟨rfl, rfl⟩
  dsimp only
  unfold RestQ
  refine wpQuiet_nil ?_
  intro gR
  go_wp2
  refine wp_region_head_call 18 (by kernel_rfl) (by kernel_rfl) ?_
  simp only [List.take_succ_cons, List.take_zero]
  repeat (go_big_quiet_step ((fail)))
  refine wpQuiet_nil ?_
  intro gN o ho
  simp only [List.getElem?_cons_succ, List.getElem?_cons_zero, Option.some.injEq] at ho
  subst ho
  simp only [List.drop_succ_cons, List.drop_zero]
  go_simp
  go_at_call 143
  refine (need_no _).mono ?_
  rintro e' w' ⟨rfl, rfl⟩
  exact ⟨rfl, (by repeat (with_reducible first | exact Chg.refl _ _ | refine chg_m ?_ _ | refine chg_g ?_ _ | refine chg_alloc ?_ _ | refine chg_drew ?_ | refine chg_drewN ?_ _ | refine chg_set ?_ _ _ _)), .inl ⟨HNO.out, rfl⟩⟩

theorem event_off2_2 (w : World) (p q n f i : Nat) (nodes : List Nd) (shut : Ev) (last : Int) (life round tag of dur : Int) (ha hb hc hd ua ub uc ud : Nat) (up : Bool) (xlife asked xtag opn : Int)
    (hA : AuIs w p q n f ⟨nodes, true, shut, last⟩) (hx : nodes[i]? = some ⟨up, xlife, asked, xtag, opn⟩) (he : Ev.ok (⟨2, (i : Int), life, round, tag, of, dur, ⟨ha, hb, hc, hd⟩, ⟨ua, ub, uc, ud⟩⟩ : Ev)) (hfit : Ev.fit n (⟨2, (i : Int), life, round, tag, of, dur, ⟨ha, hb, hc, hd⟩, ⟨ua, ub, uc, ud⟩⟩ : Ev)) (hq : ¬ (i : Int) = shut.node) :
    Calls Tryz.prog 134 #[.pointer (some ⟨p, 0, none⟩), .agg #[iv 2, iv (i : Int), iv life, iv round, iv tag, iv of, iv dur, u32v ha, u32v hb, u32v hc, u32v hd, u32v ua, u32v ub, u32v uc, u32v ud]] w (Went w p q n f (Au.step n f ⟨nodes, true, shut, last⟩ (⟨2, (i : Int), life, round, tag, of, dur, ⟨ha, hb, hc, hd⟩, ⟨ua, ub, uc, ud⟩⟩ : Ev))) := by
  have hil := (List.getElem?_eq_some_iff.1 hx).1
  have hlen := hA.len
  simp only at hlen
  have hin : (i : Int) < (n : Int) := by omega
  have hi0 : (0 : Int) ≤ (i : Int) := by omega
  have hinn : i < n := by omega
  have hl1 := hfit.2.2.2.2.1
  have hl2 := hfit.2.2.2.2.2
  simp only at hl1 hl2
  have h100 := hA.n100
  have hfn := hA.fn
  have jp : Old p w := ⟨hA.ltp⟩
  have jq : Old q w := ⟨hA.ltq⟩
  have mp := may_p w p q
  have mq := may_q w p q
  have hne := hA.ne
  obtain ⟨cp0, fp0, kp0⟩ := hA.cellp 0 (iv n) rfl
  obtain ⟨cp2, fp2, kp2⟩ := hA.cellp 2 (.slice (some ⟨q, 0, none⟩) n n) rfl
  obtain ⟨cp3, fp3, kp3⟩ := hA.cellp 3 (.bool true) rfl
  obtain ⟨cp5, fp5, kp5⟩ := hA.cellp 5 (iv shut.node) rfl
  obtain ⟨cp19, fp19, kp19⟩ := hA.cellp 19 (iv last) rfl
  obtain ⟨cq0, fq0, kq0⟩ := hA.cellq i 0 _ (.bool up) hx (by omega) rfl
  obtain ⟨cq1, fq1, kq1⟩ := hA.cellq i 1 _ (iv xlife) hx (by omega) rfl
  obtain ⟨cq2, fq2, kq2⟩ := hA.cellq i 2 _ (iv asked) hx (by omega) rfl
  obtain ⟨cq3, fq3, kq3⟩ := hA.cellq i 3 _ (iv xtag) hx (by omega) rfl
  obtain ⟨cq4, fq4, kq4⟩ := hA.cellq i 4 _ (iv opn) hx (by omega) rfl
  obtain ⟨cq5, fq5, kq5⟩ := hA.cellq i 5 _ (iv 0) hx (by omega) rfl
  simp only [Nat.add_zero] at cq0 fq0 kq0
  have hlk := kinds_some (w.alloc (.cells #[iv 2, iv (i : Int), iv life, iv round, iv tag, iv of, iv dur, u32v ha, u32v hb, u32v hc, u32v hd, u32v ua, u32v ub, u32v uc, u32v ud] 78)) p (w.heap.size + 1) (by simp) 2 (mv F2 p) rfl
  obtain ⟨u1, u2, u3, u4, u5, u6⟩ := ups (w.alloc (.cells #[iv 2, iv (i : Int), iv life, iv round, iv tag, iv of, iv dur, u32v ha, u32v hb, u32v hc, u32v hd, u32v ua, u32v ub, u32v uc, u32v ud] 78)) p (w.heap.size + 1) (by simp)
  simp only [mv, ent, F1, F2, F3, F4, F5, F6] at u1 u2 u3 u4 u5 u6
  have hmf : ∀ (fn : Fn) (first cap : Array Value) (w : World), (Instr.makeFunc fn first cap).run Tryz.prog w = .ok (.func fn first cap) w := fun _ _ _ _ => rfl
  have hmm := @run_makeMap Tryz.prog
  simp only [kindsObj, mv, ent, F1, F2, F3, F4, F5, F6] at u6 hlk
  have HNO : Hid (Au.step n f ⟨nodes, true, shut, last⟩ (⟨2, (i : Int), life, round, tag, of, dur, ⟨ha, hb, hc, hd⟩, ⟨ua, ub, uc, ud⟩⟩ : Ev) = none) := Lib.hid (step_no rfl hx (by rintro ⟨⟨h, _⟩, _⟩; exact hq (h rfl).2))
  generalize Au.step n f ⟨nodes, true, shut, last⟩ (⟨2, (i : Int), life, round, tag, of, dur, ⟨ha, hb, hc, hd⟩, ⟨ua, ub, uc, ud⟩⟩ : Ev) = r at *
  have y1 : ((i : Int) == shut.node) = false := by rw [beq_eq_false_iff_ne]; exact hq
  clear hq
  clear hA hx he hfit hlen hil
  go_enter Tryz.func134, Tryz.ntmps134
  go_wp2
  refine wp_region_head_call 25 (by kernel_rfl) (by kernel_rfl) ?_
  simp only [List.take_succ_cons, List.take_zero]
  repeat (go_big_quiet_step ((fail)))
  refine wpQuiet_nil ?_
  intro gN o ho
  simp only [List.getElem?_cons_succ, List.getElem?_cons_zero, Option.some.injEq] at ho
  subst ho
  simp only [List.drop_succ_cons, List.drop_zero]
  go_simp
  go_at_call 143
  refine (need_yes _).mono ?_
  rintro e' w' ⟨rfl, rfl⟩
  dsimp only
  unfold RestQ
  refine wpQuiet_nil ?_
  intro gR
  go_wp2
  refine wp_region_head_call 18 (by kernel_rfl) (by kernel_rfl) ?_
  simp only [List.take_succ_cons, List.take_zero]
  repeat (go_big_quiet_step ((fail)))
  refine wpQuiet_nil ?_
  intro gN o ho
  simp only [List.getElem?_cons_succ, List.getElem?_cons_zero, Option.some.injEq] at ho
  subst ho
  simp only [List.drop_succ_cons, List.drop_zero]
  go_simp
  go_at_call 143
  refine (need_no _).mono ?_
  rintro e' w' ⟨rfl, rfl⟩
  exact ⟨rfl, (by repeat (with_reducible first | exact Chg.refl _ _ | refine chg_m ?_ _ | refine chg_g ?_ _ | refine chg_alloc ?_ _ | refine chg_drew ?_ | refine chg_drewN ?_ _ | refine chg_set ?_ _ _ _)), .inl ⟨HNO.out, rfl⟩⟩

theorem event_off2_4 (w : World) (p q n f i : Nat) (nodes : List Nd) (shut : Ev) (last : Int) (life round tag of dur : Int) (ha hb hc hd ua ub uc ud : Nat) (up : Bool) (xlife asked xtag opn : Int)
    (hA : AuIs w p q n f ⟨nodes, true, shut, last⟩) (hx : nodes[i]? = some ⟨up, xlife, asked, xtag, opn⟩) (he : Ev.ok (⟨4, (i : Int), life, round, tag, of, dur, ⟨ha, hb, hc, hd⟩, ⟨ua, ub, uc, ud⟩⟩ : Ev)) (hfit : Ev.fit n (⟨4, (i : Int), life, round, tag, of, dur, ⟨ha, hb, hc, hd⟩, ⟨ua, ub, uc, ud⟩⟩ : Ev)) (hq : ¬ (i : Int) = shut.node) :
    Calls Tryz.prog 134 #[.pointer (some ⟨p, 0, none⟩), .agg #[iv 4, iv (i : Int), iv life, iv round, iv tag, iv of, iv dur, u32v ha, u32v hb, u32v hc, u32v hd, u32v ua, u32v ub, u32v uc, u32v ud]] w (Went w p q n f (Au.step n f ⟨nodes, true, shut, last⟩ (⟨4, (i : Int), life, round, tag, of, dur, ⟨ha, hb, hc, hd⟩, ⟨ua, ub, uc, ud⟩⟩ : Ev))) := by
  have hil := (List.getElem?_eq_some_iff.1 hx).1
  have hlen := hA.len
  simp only at hlen
  have hin : (i : Int) < (n : Int) := by omega
  have hi0 : (0 : Int) ≤ (i : Int) := by omega
  have hinn : i < n := by omega
  have hl1 := hfit.2.2.2.2.1
  have hl2 := hfit.2.2.2.2.2
  simp only at hl1 hl2
  have h100 := hA.n100
  have hfn := hA.fn
  have jp : Old p w := ⟨hA.ltp⟩
  have jq : Old q w := ⟨hA.ltq⟩
  have mp := may_p w p q
  have mq := may_q w p q
  have hne := hA.ne
  obtain ⟨cp0, fp0, kp0⟩ := hA.cellp 0 (iv n) rfl
  obtain ⟨cp2, fp2, kp2⟩ := hA.cellp 2 (.slice (some ⟨q, 0, none⟩) n n) rfl
  obtain ⟨cp3, fp3, kp3⟩ := hA.cellp 3 (.bool true) rfl
  obtain ⟨cp5, fp5, kp5⟩ := hA.cellp 5 (iv shut.node) rfl
  obtain ⟨cp19, fp19, kp19⟩ := hA.cellp 19 (iv last) rfl
  obtain ⟨cq0, fq0, kq0⟩ := hA.cellq i 0 _ (.bool up) hx (by omega) rfl
  obtain ⟨cq1, fq1, kq1⟩ := hA.cellq i 1 _ (iv xlife) hx (by omega) rfl
  obtain ⟨cq2, fq2, kq2⟩ := hA.cellq i 2 _ (iv asked) hx (by omega) rfl
  obtain ⟨cq3, fq3, kq3⟩ := hA.cellq i 3 _ (iv xtag) hx (by omega) rfl
  obtain ⟨cq4, fq4, kq4⟩ := hA.cellq i 4 _ (iv opn) hx (by omega) rfl
  obtain ⟨cq5, fq5, kq5⟩ := hA.cellq i 5 _ (iv 0) hx (by omega) rfl
  simp only [Nat.add_zero] at cq0 fq0 kq0
  have hlk := kinds_some (w.alloc (.cells #[iv 4, iv (i : Int), iv life, iv round, iv tag, iv of, iv dur, u32v ha, u32v hb, u32v hc, u32v hd, u32v ua, u32v ub, u32v uc, u32v ud] 78)) p (w.heap.size + 1) (by simp) 4 (mv F4 p) rfl
  obtain ⟨u1, u2, u3, u4, u5, u6⟩ := ups (w.alloc (.cells #[iv 4, iv (i : Int), iv life, iv round, iv tag, iv of, iv dur, u32v ha, u32v hb, u32v hc, u32v hd, u32v ua, u32v ub, u32v uc, u32v ud] 78)) p (w.heap.size + 1) (by simp)
  simp only [mv, ent, F1, F2, F3, F4, F5, F6] at u1 u2 u3 u4 u5 u6
  have hmf : ∀ (fn : Fn) (first cap : Array Value) (w : World), (Instr.makeFunc fn first cap).run Tryz.prog w = .ok (.func fn first cap) w := fun _ _ _ _ => rfl
  have hmm := @run_makeMap Tryz.prog
  simp only [kindsObj, mv, ent, F1, F2, F3, F4, F5, F6] at u6 hlk
  have HNO : Hid (Au.step n f ⟨nodes, true, shut, last⟩ (⟨4, (i : Int), life, round, tag, of, dur, ⟨ha, hb, hc, hd⟩, ⟨ua, ub, uc, ud⟩⟩ : Ev) = none) := Lib.hid (step_no rfl hx (by rintro ⟨⟨h, _⟩, _⟩; exact hq (h rfl).2))
  generalize Au.step n f ⟨nodes, true, shut, last⟩ (⟨4, (i : Int), life, round, tag, of, dur, ⟨ha, hb, hc, hd⟩, ⟨ua, ub, uc, ud⟩⟩ : Ev) = r at *
  have y1 : ((i : Int) == shut.node) = false := by rw [beq_eq_false_iff_ne]; exact hq
  clear hq
  clear hA hx he hfit hlen hil
  go_enter Tryz.func134, Tryz.ntmps134
  go_wp2
  refine wp_region_head_call 25 (by kernel_rfl) (by kernel_rfl) ?_
  simp only [List.take_succ_cons, List.take_zero]
  repeat (go_big_quiet_step ((fail)))
  refine wpQuiet_nil ?_
  intro gN o ho
  simp only [List.getElem?_cons_succ, List.getElem?_cons_zero, Option.some.injEq] at ho
  subst ho
  simp only [List.drop_succ_cons, List.drop_zero]
  go_simp
  go_at_call 143
  refine (need_yes _).mono ?_
  rintro e' w' ⟨rfl, rfl⟩
  dsimp only
  unfold RestQ
  refine wpQuiet_nil ?_
  intro gR
  go_wp2
  refine wp_region_head_call 18 (by kernel_rfl) (by kernel_rfl) ?_
  simp only [List.take_succ_cons, List.take_zero]
  repeat (go_big_quiet_step ((fail)))
  refine wpQuiet_nil ?_
  intro gN o ho
  simp only [List.getElem?_cons_succ, List.getElem?_cons_zero, Option.some.injEq] at ho
  subst ho
  simp only [List.drop_succ_cons, List.drop_zero]
  go_simp
  go_at_call 143
  refine (need_no _).mono ?_
  rintro e' w' ⟨rfl, rfl⟩
  exact ⟨rfl, (by repeat (with_reducible first | exact Chg.refl _ _ | refine chg_m ?_ _ | refine chg_g ?_ _ | refine chg_alloc ?_ _ | refine chg_drew ?_ | refine chg_drewN ?_ _ | refine chg_set ?_ _ _ _)), .inl ⟨HNO.out, rfl⟩⟩

theorem event_off3 (w : World) (p q n f i : Nat) (nodes : List Nd) (shut : Ev) (last : Int) (life round tag of dur : Int) (ha hb hc hd ua ub uc ud : Nat) (up : Bool) (xlife asked xtag opn : Int)
    (hA : AuIs w p q n f ⟨nodes, false, shut, last⟩) (hx : nodes[i]? = some ⟨up, xlife, asked, xtag, opn⟩) (he : Ev.ok (⟨4, (i : Int), life, round, tag, of, dur, ⟨ha, hb, hc, hd⟩, ⟨ua, ub, uc, ud⟩⟩ : Ev)) (hfit : Ev.fit n (⟨4, (i : Int), life, round, tag, of, dur, ⟨ha, hb, hc, hd⟩, ⟨ua, ub, uc, ud⟩⟩ : Ev)) :
    Calls Tryz.prog 134 #[.pointer (some ⟨p, 0, none⟩), .agg #[iv 4, iv (i : Int), iv life, iv round, iv tag, iv of, iv dur, u32v ha, u32v hb, u32v hc, u32v hd, u32v ua, u32v ub, u32v uc, u32v ud]] w (Went w p q n f (Au.step n f ⟨nodes, false, shut, last⟩ (⟨4, (i : Int), life, round, tag, of, dur, ⟨ha, hb, hc, hd⟩, ⟨ua, ub, uc, ud⟩⟩ : Ev))) := by
  have hil := (List.getElem?_eq_some_iff.1 hx).1
  have hlen := hA.len
  simp only at hlen
  have hin : (i : Int) < (n : Int) := by omega
  have hi0 : (0 : Int) ≤ (i : Int) := by omega
  have hinn : i < n := by omega
  have hl1 := hfit.2.2.2.2.1
  have hl2 := hfit.2.2.2.2.2
  simp only at hl1 hl2
  have h100 := hA.n100
  have hfn := hA.fn
  have jp : Old p w := ⟨hA.ltp⟩
  have jq : Old q w := ⟨hA.ltq⟩
  have mp := may_p w p q
  have mq := may_q w p q
  have hne := hA.ne
  obtain ⟨cp0, fp0, kp0⟩ := hA.cellp 0 (iv n) rfl
  obtain ⟨cp2, fp2, kp2⟩ := hA.cellp 2 (.slice (some ⟨q, 0, none⟩) n n) rfl
  obtain ⟨cp3, fp3, kp3⟩ := hA.cellp 3 (.bool false) rfl
  obtain ⟨cp5, fp5, kp5⟩ := hA.cellp 5 (iv shut.node) rfl
  obtain ⟨cp19, fp19, kp19⟩ := hA.cellp 19 (iv last) rfl
  obtain ⟨cq0, fq0, kq0⟩ := hA.cellq i 0 _ (.bool up) hx (by omega) rfl
  obtain ⟨cq1, fq1, kq1⟩ := hA.cellq i 1 _ (iv xlife) hx (by omega) rfl
  obtain ⟨cq2, fq2, kq2⟩ := hA.cellq i 2 _ (iv asked) hx (by omega) rfl
  obtain ⟨cq3, fq3, kq3⟩ := hA.cellq i 3 _ (iv xtag) hx (by omega) rfl
  obtain ⟨cq4, fq4, kq4⟩ := hA.cellq i 4 _ (iv opn) hx (by omega) rfl
  obtain ⟨cq5, fq5, kq5⟩ := hA.cellq i 5 _ (iv 0) hx (by omega) rfl
  simp only [Nat.add_zero] at cq0 fq0 kq0
  have hlk := kinds_some (w.alloc (.cells #[iv 4, iv (i : Int), iv life, iv round, iv tag, iv of, iv dur, u32v ha, u32v hb, u32v hc, u32v hd, u32v ua, u32v ub, u32v uc, u32v ud] 78)) p (w.heap.size + 1) (by simp) 4 (mv F4 p) rfl
  obtain ⟨u1, u2, u3, u4, u5, u6⟩ := ups (w.alloc (.cells #[iv 4, iv (i : Int), iv life, iv round, iv tag, iv of, iv dur, u32v ha, u32v hb, u32v hc, u32v hd, u32v ua, u32v ub, u32v uc, u32v ud] 78)) p (w.heap.size + 1) (by simp)
  simp only [mv, ent, F1, F2, F3, F4, F5, F6] at u1 u2 u3 u4 u5 u6
  have hmf : ∀ (fn : Fn) (first cap : Array Value) (w : World), (Instr.makeFunc fn first cap).run Tryz.prog w = .ok (.func fn first cap) w := fun _ _ _ _ => rfl
  have hmm := @run_makeMap Tryz.prog
  simp only [kindsObj, mv, ent, F1, F2, F3, F4, F5, F6] at u6 hlk
  have HNO : Hid (Au.step n f ⟨nodes, false, shut, last⟩ (⟨4, (i : Int), life, round, tag, of, dur, ⟨ha, hb, hc, hd⟩, ⟨ua, ub, uc, ud⟩⟩ : Ev) = none) := Lib.hid (step_no rfl hx (by rintro ⟨⟨_, h⟩, _⟩; rcases h with h | h; cases h; exact h rfl))
  generalize Au.step n f ⟨nodes, false, shut, last⟩ (⟨4, (i : Int), life, round, tag, of, dur, ⟨ha, hb, hc, hd⟩, ⟨ua, ub, uc, ud⟩⟩ : Ev) = r at *
  clear hA hx he hfit hlen hil
  go_enter Tryz.func134, Tryz.ntmps134
  go_wp2
  refine wp_region_head_call 25 (by kernel_rfl) (by kernel_rfl) ?_
  simp only [List.take_succ_cons, List.take_zero]
  repeat (go_big_quiet_step ((fail)))
  refine wpQuiet_nil ?_
  intro gN o ho
  simp only [List.getElem?_cons_succ, List.getElem?_cons_zero, Option.some.injEq] at ho
  subst ho
  simp only [List.drop_succ_cons, List.drop_zero]
  go_simp
  go_at_call 143
  refine (need_yes _).mono ?_
  rintro e' w' ⟨rfl, rfl⟩
  dsimp only
  unfold RestQ
  refine wpQuiet_nil ?_
  intro gR
  go_wp2_with fail
  refine (need_no _).mono ?_
  rintro e' w' ⟨rfl, rfl⟩
  exact ⟨rfl, (by repeat (with_reducible first | exact Chg.refl _ _ | refine chg_m ?_ _ | refine chg_g ?_ _ | refine chg_alloc ?_ _ | refine chg_drew ?_ | refine chg_drewN ?_ _ | refine chg_set ?_ _ _ _)), .inl ⟨HNO.out, rfl⟩⟩
end Go.Proofs.YteemkceceaabkaaGreat
