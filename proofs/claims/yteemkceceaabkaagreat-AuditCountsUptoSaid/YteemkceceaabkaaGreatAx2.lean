/- Package audit: what its methods do: begin, ask, close, doubt, defend, down. -/
import Derived.Test.YteemkceceaabkaaGreatAx0
namespace Go.Proofs.YteemkceceaabkaaGreat
open Go.RowKit Go.Ear
set_option maxHeartbeats 4000000
set_option maxRecDepth 100000
set_option linter.unusedSimpArgs false
attribute [local go_sem ↓] Go.wp_at_zero Go.wp_at_succ

def AskOk (row : Bool) (sr : Int) (x : Nd) (e : Ev) : Prop := (Ev.blank e = ⟨0, 0, 0, e.round, 0, 0, 0, .zero, .zero⟩) ∧ (row = true → sr < e.round ∧ e.round ≤ 1099511627775) ∧ (row = false → e.round = x.opn)

theorem ask_true (w : World) (p q n f : Nat) (s : Au) (e : Ev) (x : Nd) (i : Nat) (hA : AuIs w p q n f s) (he : e.ok) (hi : e.node = i) (hx : s.nodes[i]? = some x) (hrow : s.row = true) :
    Calls Tryz.prog 138 #[.pointer (some ⟨p, 0, none⟩), e.v] w (Looked w p q n f (AskOk true s.shut.round x e) ⟨s.nodes.set i ⟨x.up, x.life, max x.asked e.round, x.tag, e.round⟩, s.row, s.shut, s.last⟩) := by
  obtain ⟨kind, node, life, round, tag, of, dur, ⟨ha, hb, hc, hd⟩, ⟨ua, ub, uc, ud⟩⟩ := e
  obtain ⟨nodes, row, shut, last⟩ := s
  simp only at hi hx hrow
  subst hrow
  subst hi
  have hil := (List.getElem?_eq_some_iff.1 hx).1
  have hilt : i < n := by have := hA.len; simp only at this; omega
  have h100 := hA.n100
  have hfn := hA.fn
  have hi0 : (0 : Int) ≤ (i : Int) := by omega
  have hin : (i : Int) < (n : Int) := by omega
  have jp : Old p w := ⟨hA.ltp⟩
  have jq : Old q w := ⟨hA.ltq⟩
  have mp := may_p w p q
  have mq := may_q w p q
  have hne := hA.ne
  obtain ⟨cp0, fp0, kp0⟩ := hA.cellp 0 (iv n) rfl
  obtain ⟨cp2, fp2, kp2⟩ := hA.cellp 2 (.slice (some ⟨q, 0, none⟩) n n) rfl
  obtain ⟨cp3, fp3, kp3⟩ := hA.cellp 3 (.bool true) rfl
  obtain ⟨cp7, fp7, kp7⟩ := hA.cellp 7 (iv shut.round) rfl
  obtain ⟨up, xlife, asked, xtag, opn⟩ := x
  obtain ⟨cq0, fq0, kq0⟩ := hA.cellq i 0 _ (.bool up) hx (by omega) rfl
  obtain ⟨cq1, fq1, kq1⟩ := hA.cellq i 1 _ (iv xlife) hx (by omega) rfl
  obtain ⟨cq2, fq2, kq2⟩ := hA.cellq i 2 _ (iv asked) hx (by omega) rfl
  obtain ⟨cq3, fq3, kq3⟩ := hA.cellq i 3 _ (iv xtag) hx (by omega) rfl
  obtain ⟨cq4, fq4, kq4⟩ := hA.cellq i 4 _ (iv opn) hx (by omega) rfl
  simp only [Nat.add_zero] at cq0 fq0 kq0
  have HA := Lib.hid hA
  have HX := Lib.hid hx
  have HL := Lib.hid hil
  clear hA hx hil
  change Calls _ _ #[_, .agg #[iv kind, iv (i : Int), iv life, iv round, iv tag, iv of, iv dur, u32v ha, u32v hb, u32v hc, u32v hd, u32v ua, u32v ub, u32v uc, u32v ud]] _ _
  have hbl : ∀ W, Calls Tryz.prog 144 #[.agg #[iv kind, iv (i : Int), iv life, iv round, iv tag, iv of, iv dur, u32v ha, u32v hb, u32v hc, u32v hd, u32v ua, u32v ub, u32v uc, u32v ud]] W (Gr (.agg #[iv 0, iv 0, iv 0, iv round, iv tag, iv of, iv dur, u32v ha, u32v hb, u32v hc, u32v hd, u32v ua, u32v ub, u32v uc, u32v ud]) W) := fun W => blank_any ⟨kind, i, life, round, tag, of, dur, ⟨ha, hb, hc, hd⟩, ⟨ua, ub, uc, ud⟩⟩ W
  have hgs := guardEv
  by_cases hba : (⟨0, 0, 0, round, tag, of, dur, ⟨ha, hb, hc, hd⟩, ⟨ua, ub, uc, ud⟩⟩ : Ev) = ⟨0, 0, 0, round, 0, 0, 0, .zero, .zero⟩
  case neg =>
    have heq : ∀ W, (Op.equalIn 10000 78 (.agg #[iv 0, iv 0, iv 0, iv round, iv tag, iv of, iv dur, u32v ha, u32v hb, u32v hc, u32v hd, u32v ua, u32v ub, u32v uc, u32v ud]) (.agg #[iv 0, iv 0, iv 0, iv round, iv 0, iv 0, iv 0, .int .u32 0, .int .u32 0, .int .u32 0, .int .u32 0, .int .u32 0, .int .u32 0, .int .u32 0, .int .u32 0])).run Tryz.prog W = .ok false W := fun W => (eqEv W ⟨0, 0, 0, round, tag, of, dur, ⟨ha, hb, hc, hd⟩, ⟨ua, ub, uc, ud⟩⟩ ⟨0, 0, 0, round, 0, 0, 0, .zero, .zero⟩).trans (by rw [decide_eq_false hba])
    have HNO := Lib.hid (fun h => hba h.1 : ¬ (AskOk true shut.round ⟨up, xlife, asked, xtag, opn⟩ ⟨kind, i, life, round, tag, of, dur, ⟨ha, hb, hc, hd⟩, ⟨ua, ub, uc, ud⟩⟩))
    clear hba
    go_enter Tryz.func138, Tryz.ntmps138
    go_wp2
    go_quiet (fail)
    go_wp2
    refine wp_region_head_call 6 (by kernel_rfl) (by kernel_rfl) ?_
    simp only [List.take_succ_cons, List.take_zero]
    repeat (go_big_quiet_step ((go_at_call 144; exact grows_of (hbl _))))
    refine wpQuiet_nil ?_
    intro gN o ho
    simp only [List.getElem?_cons_succ, List.getElem?_cons_zero, Option.some.injEq] at ho
    subst ho
    simp only [List.drop_succ_cons, List.drop_zero]
    go_simp
    go_at_call 143
    refine (need_no _).mono ?_
    rintro e' w' ⟨rfl, rfl⟩
    exact ⟨rfl, (by repeat (with_reducible first | exact Chg.refl _ _ | refine chg_m ?_ _ | refine chg_g ?_ _ | refine chg_alloc ?_ _ | refine chg_drew ?_ | refine chg_drewN ?_ _ | refine chg_set ?_ _ _ _)), .inr ⟨HNO.out, rfl⟩⟩
  have heq : ∀ W, (Op.equalIn 10000 78 (.agg #[iv 0, iv 0, iv 0, iv round, iv tag, iv of, iv dur, u32v ha, u32v hb, u32v hc, u32v hd, u32v ua, u32v ub, u32v uc, u32v ud]) (.agg #[iv 0, iv 0, iv 0, iv round, iv 0, iv 0, iv 0, .int .u32 0, .int .u32 0, .int .u32 0, .int .u32 0, .int .u32 0, .int .u32 0, .int .u32 0, .int .u32 0])).run Tryz.prog W = .ok true W := fun W => (eqEv W ⟨0, 0, 0, round, tag, of, dur, ⟨ha, hb, hc, hd⟩, ⟨ua, ub, uc, ud⟩⟩ ⟨0, 0, 0, round, 0, 0, 0, .zero, .zero⟩).trans (by rw [decide_eq_true hba])
  have HBA := Lib.hid hba
  clear hba
  go_enter Tryz.func138, Tryz.ntmps138
  go_wp2
  go_quiet (fail)
  go_wp2
  refine wp_region_head_call 6 (by kernel_rfl) (by kernel_rfl) ?_
  simp only [List.take_succ_cons, List.take_zero]
  repeat (go_big_quiet_step ((go_at_call 144; exact grows_of (hbl _))))
  refine wpQuiet_nil ?_
  intro gN o ho
  simp only [List.getElem?_cons_succ, List.getElem?_cons_zero, Option.some.injEq] at ho
  subst ho
  simp only [List.drop_succ_cons, List.drop_zero]
  go_simp
  go_at_call 143
  refine (need_yes _).mono ?_
  rintro e' w' ⟨rfl, rfl⟩
  dsimp only
  unfold RestQ
  refine wpQuiet_nil ?_
  intro gR
  go_wp2
  by_cases hq13_0 : round ≤ shut.round
  case pos =>
    have HNO : Hid (¬ (AskOk true shut.round ⟨up, xlife, asked, xtag, opn⟩ ⟨kind, i, life, round, tag, of, dur, ⟨ha, hb, hc, hd⟩, ⟨ua, ub, uc, ud⟩⟩)) := Lib.hid (by unfold AskOk; rintro ⟨_, h1, _⟩; have h1 := h1 rfl; first | omega | (dsimp only at *; omega) | contradiction | simp_all)
    have dq13_0 : decide (shut.round < round) = false := by simp; omega
    clear hq13_0
    refine wp_region_head_call 13 (by kernel_rfl) (by kernel_rfl) ?_
    simp only [List.take_succ_cons, List.take_zero]
    repeat (go_big_quiet_step ((fail)))
    refine wpQuiet_nil ?_
    intro gN o ho
    simp only [List.getElem?_cons_succ, List.getElem?_cons_zero, Option.some.injEq] at ho
    subst ho
    simp only [List.drop_succ_cons, List.drop_zero]
    go_simp
    go_at_call 143
    refine (need_no _).mono ?_
    rintro e' w' ⟨rfl, rfl⟩
    exact ⟨rfl, (by repeat (with_reducible first | exact Chg.refl _ _ | refine chg_m ?_ _ | refine chg_g ?_ _ | refine chg_alloc ?_ _ | refine chg_drew ?_ | refine chg_drewN ?_ _ | refine chg_set ?_ _ _ _)), .inr ⟨HNO.out, rfl⟩⟩
  have dq13_0 : shut.round < round := by omega
  clear hq13_0
  by_cases hq13_1 : 1099511627775 < round
  case pos =>
    have HNO : Hid (¬ (AskOk true shut.round ⟨up, xlife, asked, xtag, opn⟩ ⟨kind, i, life, round, tag, of, dur, ⟨ha, hb, hc, hd⟩, ⟨ua, ub, uc, ud⟩⟩)) := Lib.hid (by unfold AskOk; rintro ⟨_, h1, _⟩; have h1 := h1 rfl; first | omega | (dsimp only at *; omega) | contradiction | simp_all)
    have dq13_1 : decide (round ≤ 1099511627775) = false := by simp; omega
    clear hq13_1
    refine wp_region_head_call 13 (by kernel_rfl) (by kernel_rfl) ?_
    simp only [List.take_succ_cons, List.take_zero]
    repeat (go_big_quiet_step ((fail)))
    refine wpQuiet_nil ?_
    intro gN o ho
    simp only [List.getElem?_cons_succ, List.getElem?_cons_zero, Option.some.injEq] at ho
    subst ho
    simp only [List.drop_succ_cons, List.drop_zero]
    go_simp
    go_at_call 143
    refine (need_no _).mono ?_
    rintro e' w' ⟨rfl, rfl⟩
    exact ⟨rfl, (by repeat (with_reducible first | exact Chg.refl _ _ | refine chg_m ?_ _ | refine chg_g ?_ _ | refine chg_alloc ?_ _ | refine chg_drew ?_ | refine chg_drewN ?_ _ | refine chg_set ?_ _ _ _)), .inr ⟨HNO.out, rfl⟩⟩
  have dq13_1 : round ≤ 1099511627775 := by omega
  clear hq13_1
  refine wp_region_head_call 13 (by kernel_rfl) (by kernel_rfl) ?_
  simp only [List.take_succ_cons, List.take_zero]
  repeat (go_big_quiet_step ((fail)))
  refine wpQuiet_nil ?_
  intro gN o ho
  simp only [List.getElem?_cons_succ, List.getElem?_cons_zero, Option.some.injEq] at ho
  subst ho
  simp only [List.drop_succ_cons, List.drop_zero]
  go_simp
  go_at_call 143
  refine (need_yes _).mono ?_
  rintro e' w' ⟨rfl, rfl⟩
  dsimp only
  unfold RestQ
  refine wpQuiet_nil ?_
  intro gR
  go_wp2
  refine wp_region_head_call 7 (by kernel_rfl) (by kernel_rfl) ?_
  simp only [List.take_succ_cons, List.take_zero]
  repeat (go_big_quiet_step ((fail)))
  refine wpQuiet_nil ?_
  intro gN o ho
  simp only [List.getElem?_cons_succ, List.getElem?_cons_zero, Option.some.injEq] at ho
  subst ho
  simp only [List.drop_succ_cons, List.drop_zero]
  go_simp
  go_at_call 143
  refine (need_yes _).mono ?_
  rintro e' w' ⟨rfl, rfl⟩
  dsimp only
  unfold RestQ
  refine wpQuiet_nil ?_
  intro gR
  go_wp2
  go_region
  go_end0
  refine ⟨(by repeat (with_reducible first | exact Chg.refl _ _ | refine chg_m ?_ _ | refine chg_g ?_ _ | refine chg_alloc ?_ _ | refine chg_drew ?_ | refine chg_drewN ?_ _ | refine chg_set ?_ _ _ _)), .inl ⟨⟨HBA.out, fun _ => ⟨dq13_0, dq13_1⟩, (fun h => by cases h)⟩, rfl, ?_⟩⟩
  refine AuIs.drew ?_
  refine AuIs.setq' 2 ⟨up, xlife, asked, xtag, round⟩ ⟨up, xlife, max asked round, xtag, round⟩ _ (by decide) (by rw [max_ite]; rfl) HL.out ?_
  refine AuIs.grow (AuIs.grow ?_ gN.h) gR.h
  refine AuIs.setq' 4 ⟨up, xlife, asked, xtag, opn⟩ ⟨up, xlife, asked, xtag, round⟩ _ (by decide) rfl HL.out ?_
  refine AuIs.at (s := ⟨nodes, true, shut, last⟩) HX.out (HA.out.grow ?_)
  exact (by repeat (with_reducible first | exact Chg.refl _ _ | refine chg_m ?_ _ | refine chg_g ?_ _ | refine chg_alloc ?_ _ | refine chg_drew ?_ | refine chg_drewN ?_ _ | refine chg_set ?_ _ _ _))

theorem ask_false (w : World) (p q n f : Nat) (s : Au) (e : Ev) (x : Nd) (i : Nat) (hA : AuIs w p q n f s) (he : e.ok) (hi : e.node = i) (hx : s.nodes[i]? = some x) (hrow : s.row = false) :
    Calls Tryz.prog 138 #[.pointer (some ⟨p, 0, none⟩), e.v] w (Looked w p q n f (AskOk false s.shut.round x e) ⟨s.nodes.set i ⟨x.up, x.life, max x.asked e.round, x.tag, e.round⟩, s.row, s.shut, s.last⟩) := by
  obtain ⟨kind, node, life, round, tag, of, dur, ⟨ha, hb, hc, hd⟩, ⟨ua, ub, uc, ud⟩⟩ := e
  obtain ⟨nodes, row, shut, last⟩ := s
  simp only at hi hx hrow
  subst hrow
  subst hi
  have hil := (List.getElem?_eq_some_iff.1 hx).1
  have hilt : i < n := by have := hA.len; simp only at this; omega
  have h100 := hA.n100
  have hfn := hA.fn
  have hi0 : (0 : Int) ≤ (i : Int) := by omega
  have hin : (i : Int) < (n : Int) := by omega
  have jp : Old p w := ⟨hA.ltp⟩
  have jq : Old q w := ⟨hA.ltq⟩
  have mp := may_p w p q
  have mq := may_q w p q
  have hne := hA.ne
  obtain ⟨cp0, fp0, kp0⟩ := hA.cellp 0 (iv n) rfl
  obtain ⟨cp2, fp2, kp2⟩ := hA.cellp 2 (.slice (some ⟨q, 0, none⟩) n n) rfl
  obtain ⟨cp3, fp3, kp3⟩ := hA.cellp 3 (.bool false) rfl
  obtain ⟨cp7, fp7, kp7⟩ := hA.cellp 7 (iv shut.round) rfl
  obtain ⟨up, xlife, asked, xtag, opn⟩ := x
  obtain ⟨cq0, fq0, kq0⟩ := hA.cellq i 0 _ (.bool up) hx (by omega) rfl
  obtain ⟨cq1, fq1, kq1⟩ := hA.cellq i 1 _ (iv xlife) hx (by omega) rfl
  obtain ⟨cq2, fq2, kq2⟩ := hA.cellq i 2 _ (iv asked) hx (by omega) rfl
  obtain ⟨cq3, fq3, kq3⟩ := hA.cellq i 3 _ (iv xtag) hx (by omega) rfl
  obtain ⟨cq4, fq4, kq4⟩ := hA.cellq i 4 _ (iv opn) hx (by omega) rfl
  simp only [Nat.add_zero] at cq0 fq0 kq0
  have HA := Lib.hid hA
  have HX := Lib.hid hx
  have HL := Lib.hid hil
  clear hA hx hil
  change Calls _ _ #[_, .agg #[iv kind, iv (i : Int), iv life, iv round, iv tag, iv of, iv dur, u32v ha, u32v hb, u32v hc, u32v hd, u32v ua, u32v ub, u32v uc, u32v ud]] _ _
  have hbl : ∀ W, Calls Tryz.prog 144 #[.agg #[iv kind, iv (i : Int), iv life, iv round, iv tag, iv of, iv dur, u32v ha, u32v hb, u32v hc, u32v hd, u32v ua, u32v ub, u32v uc, u32v ud]] W (Gr (.agg #[iv 0, iv 0, iv 0, iv round, iv tag, iv of, iv dur, u32v ha, u32v hb, u32v hc, u32v hd, u32v ua, u32v ub, u32v uc, u32v ud]) W) := fun W => blank_any ⟨kind, i, life, round, tag, of, dur, ⟨ha, hb, hc, hd⟩, ⟨ua, ub, uc, ud⟩⟩ W
  have hgs := guardEv
  by_cases hba : (⟨0, 0, 0, round, tag, of, dur, ⟨ha, hb, hc, hd⟩, ⟨ua, ub, uc, ud⟩⟩ : Ev) = ⟨0, 0, 0, round, 0, 0, 0, .zero, .zero⟩
  case neg =>
    have heq : ∀ W, (Op.equalIn 10000 78 (.agg #[iv 0, iv 0, iv 0, iv round, iv tag, iv of, iv dur, u32v ha, u32v hb, u32v hc, u32v hd, u32v ua, u32v ub, u32v uc, u32v ud]) (.agg #[iv 0, iv 0, iv 0, iv round, iv 0, iv 0, iv 0, .int .u32 0, .int .u32 0, .int .u32 0, .int .u32 0, .int .u32 0, .int .u32 0, .int .u32 0, .int .u32 0])).run Tryz.prog W = .ok false W := fun W => (eqEv W ⟨0, 0, 0, round, tag, of, dur, ⟨ha, hb, hc, hd⟩, ⟨ua, ub, uc, ud⟩⟩ ⟨0, 0, 0, round, 0, 0, 0, .zero, .zero⟩).trans (by rw [decide_eq_false hba])
    have HNO := Lib.hid (fun h => hba h.1 : ¬ (AskOk false shut.round ⟨up, xlife, asked, xtag, opn⟩ ⟨kind, i, life, round, tag, of, dur, ⟨ha, hb, hc, hd⟩, ⟨ua, ub, uc, ud⟩⟩))
    clear hba
    go_enter Tryz.func138, Tryz.ntmps138
    go_wp2
    go_quiet (fail)
    go_wp2
    refine wp_region_head_call 6 (by kernel_rfl) (by kernel_rfl) ?_
    simp only [List.take_succ_cons, List.take_zero]
    repeat (go_big_quiet_step ((go_at_call 144; exact grows_of (hbl _))))
    refine wpQuiet_nil ?_
    intro gN o ho
    simp only [List.getElem?_cons_succ, List.getElem?_cons_zero, Option.some.injEq] at ho
    subst ho
    simp only [List.drop_succ_cons, List.drop_zero]
    go_simp
    go_at_call 143
    refine (need_no _).mono ?_
    rintro e' w' ⟨rfl, rfl⟩
    exact ⟨rfl, (by repeat (with_reducible first | exact Chg.refl _ _ | refine chg_m ?_ _ | refine chg_g ?_ _ | refine chg_alloc ?_ _ | refine chg_drew ?_ | refine chg_drewN ?_ _ | refine chg_set ?_ _ _ _)), .inr ⟨HNO.out, rfl⟩⟩
  have heq : ∀ W, (Op.equalIn 10000 78 (.agg #[iv 0, iv 0, iv 0, iv round, iv tag, iv of, iv dur, u32v ha, u32v hb, u32v hc, u32v hd, u32v ua, u32v ub, u32v uc, u32v ud]) (.agg #[iv 0, iv 0, iv 0, iv round, iv 0, iv 0, iv 0, .int .u32 0, .int .u32 0, .int .u32 0, .int .u32 0, .int .u32 0, .int .u32 0, .int .u32 0, .int .u32 0])).run Tryz.prog W = .ok true W := fun W => (eqEv W ⟨0, 0, 0, round, tag, of, dur, ⟨ha, hb, hc, hd⟩, ⟨ua, ub, uc, ud⟩⟩ ⟨0, 0, 0, round, 0, 0, 0, .zero, .zero⟩).trans (by rw [decide_eq_true hba])
  have HBA := Lib.hid hba
  clear hba
  go_enter Tryz.func138, Tryz.ntmps138
  go_wp2
  go_quiet (fail)
  go_wp2
  refine wp_region_head_call 6 (by kernel_rfl) (by kernel_rfl) ?_
  simp only [List.take_succ_cons, List.take_zero]
  repeat (go_big_quiet_step ((go_at_call 144; exact grows_of (hbl _))))
  refine wpQuiet_nil ?_
  intro gN o ho
  simp only [List.getElem?_cons_succ, List.getElem?_cons_zero, Option.some.injEq] at ho
  subst ho
  simp only [List.drop_succ_cons, List.drop_zero]
  go_simp
  go_at_call 143
  refine (need_yes _).mono ?_
  rintro e' w' ⟨rfl, rfl⟩
  dsimp only
  unfold RestQ
  refine wpQuiet_nil ?_
  intro gR
  go_wp2
  by_cases hq7_0 : ¬ round = opn
  case pos =>
    have HNO : Hid (¬ (AskOk false shut.round ⟨up, xlife, asked, xtag, opn⟩ ⟨kind, i, life, round, tag, of, dur, ⟨ha, hb, hc, hd⟩, ⟨ua, ub, uc, ud⟩⟩)) := Lib.hid (by unfold AskOk; rintro ⟨_, _, h1⟩; have h1 := h1 rfl; first | omega | (dsimp only at *; omega) | contradiction | simp_all)
    have dq7_0 : ((round : Int) == opn) = false := by rw [beq_eq_false_iff_ne]; exact hq7_0
    clear hq7_0
    refine wp_region_head_call 7 (by kernel_rfl) (by kernel_rfl) ?_
    simp only [List.take_succ_cons, List.take_zero]
    repeat (go_big_quiet_step ((fail)))
    refine wpQuiet_nil ?_
    intro gN o ho
    simp only [List.getElem?_cons_succ, List.getElem?_cons_zero, Option.some.injEq] at ho
    subst ho
    simp only [List.drop_succ_cons, List.drop_zero]
    go_simp
    go_at_call 143
    refine (need_no _).mono ?_
    rintro e' w' ⟨rfl, rfl⟩
    exact ⟨rfl, (by repeat (with_reducible first | exact Chg.refl _ _ | refine chg_m ?_ _ | refine chg_g ?_ _ | refine chg_alloc ?_ _ | refine chg_drew ?_ | refine chg_drewN ?_ _ | refine chg_set ?_ _ _ _)), .inr ⟨HNO.out, rfl⟩⟩
  have eq7_0 : round = opn := Decidable.not_not.1 hq7_0
  have dq7_0 : ((round : Int) == opn) = true := by rw [beq_iff_eq]; exact eq7_0
  have HQ7_0 := Lib.hid eq7_0
  clear hq7_0 eq7_0
  refine wp_region_head_call 7 (by kernel_rfl) (by kernel_rfl) ?_
  simp only [List.take_succ_cons, List.take_zero]
  repeat (go_big_quiet_step ((fail)))
  refine wpQuiet_nil ?_
  intro gN o ho
  simp only [List.getElem?_cons_succ, List.getElem?_cons_zero, Option.some.injEq] at ho
  subst ho
  simp only [List.drop_succ_cons, List.drop_zero]
  go_simp
  go_at_call 143
  refine (need_yes _).mono ?_
  rintro e' w' ⟨rfl, rfl⟩
  dsimp only
  unfold RestQ
  refine wpQuiet_nil ?_
  intro gR
  go_wp2
  go_region
  go_end0
  refine ⟨(by repeat (with_reducible first | exact Chg.refl _ _ | refine chg_m ?_ _ | refine chg_g ?_ _ | refine chg_alloc ?_ _ | refine chg_drew ?_ | refine chg_drewN ?_ _ | refine chg_set ?_ _ _ _)), .inl ⟨⟨HBA.out, (fun h => by cases h), fun _ => HQ7_0.out⟩, rfl, ?_⟩⟩
  refine AuIs.drew ?_
  obtain rfl := HQ7_0.out
  refine AuIs.setq' 2 ⟨up, xlife, asked, xtag, round⟩ ⟨up, xlife, max asked round, xtag, round⟩ _ (by decide) (by rw [max_ite]; rfl) HL.out ?_
  refine AuIs.at (s := ⟨nodes, false, shut, last⟩) HX.out (HA.out.grow ?_)
  exact (by repeat (with_reducible first | exact Chg.refl _ _ | refine chg_m ?_ _ | refine chg_g ?_ _ | refine chg_alloc ?_ _ | refine chg_drew ?_ | refine chg_drewN ?_ _ | refine chg_set ?_ _ _ _))
end Go.Proofs.YteemkceceaabkaaGreat
