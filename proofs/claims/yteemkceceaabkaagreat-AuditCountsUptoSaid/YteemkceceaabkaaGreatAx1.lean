/- Package audit: what its methods do: begin, ask, close, doubt, defend, down. -/
import Derived.Test.YteemkceceaabkaaGreatAx0
namespace Go.Proofs.YteemkceceaabkaaGreat
open Go.RowKit Go.Ear
set_option maxHeartbeats 4000000
set_option maxRecDepth 100000
set_option linter.unusedSimpArgs false
attribute [local go_sem ↓] Go.wp_at_zero Go.wp_at_succ

def BeginOk (x : Nd) (e : Ev) : Prop := (Ev.blank e = ⟨0, 0, 0, e.round, e.tag, 0, 0, .zero, .zero⟩) ∧ (x.up = false ∧ x.life < e.life ∧ 1 ≤ e.round ∧ e.round ≤ 1099511627775 ∧ x.asked < e.round) ∧ x.tag ≤ e.tag ∧ e.tag ≤ 1048576

theorem begin_any (w : World) (p q n f : Nat) (s : Au) (e : Ev) (x : Nd) (i : Nat) (hA : AuIs w p q n f s) (he : e.ok) (hi : e.node = i) (hx : s.nodes[i]? = some x) :
    Calls Tryz.prog 137 #[.pointer (some ⟨p, 0, none⟩), e.v] w (Looked w p q n f (BeginOk x e) ⟨s.nodes.set i ⟨true, e.life, x.asked, e.tag, e.round⟩, s.row, s.shut, s.last⟩) := by
  obtain ⟨kind, node, life, round, tag, of, dur, ⟨ha, hb, hc, hd⟩, ⟨ua, ub, uc, ud⟩⟩ := e
  obtain ⟨nodes, row, shut, last⟩ := s
  simp only at hi hx
  subst hi
  have hil := (List.getElem?_eq_some_iff.1 hx).1
  have hilt : i < n := by have := hA.len; simp only at this; omega
  have h100 := hA.n100
  have hfn := hA.fn
  have hi0 : (0 : Int) ≤ (i : Int) := by omega
  have hin : (i : Int) < (n : Int) := by omega
  have jp : Old p w := ⟨hA.ltp⟩
  have jq : Old q w := ⟨hA.ltq⟩
  have mp := may_p w p q
  have mq := may_q w p q
  have hne := hA.ne
  obtain ⟨cp0, fp0, kp0⟩ := hA.cellp 0 (iv n) rfl
  obtain ⟨cp2, fp2, kp2⟩ := hA.cellp 2 (.slice (some ⟨q, 0, none⟩) n n) rfl
  obtain ⟨up, xlife, asked, xtag, opn⟩ := x
  obtain ⟨cq0, fq0, kq0⟩ := hA.cellq i 0 _ (.bool up) hx (by omega) rfl
  obtain ⟨cq1, fq1, kq1⟩ := hA.cellq i 1 _ (iv xlife) hx (by omega) rfl
  obtain ⟨cq2, fq2, kq2⟩ := hA.cellq i 2 _ (iv asked) hx (by omega) rfl
  obtain ⟨cq3, fq3, kq3⟩ := hA.cellq i 3 _ (iv xtag) hx (by omega) rfl
  obtain ⟨cq4, fq4, kq4⟩ := hA.cellq i 4 _ (iv opn) hx (by omega) rfl
  simp only [Nat.add_zero] at cq0 fq0 kq0
  have HA := Lib.hid hA
  have HX := Lib.hid hx
  have HL := Lib.hid hil
  clear hA hx hil
  change Calls _ _ #[_, .agg #[iv kind, iv (i : Int), iv life, iv round, iv tag, iv of, iv dur, u32v ha, u32v hb, u32v hc, u32v hd, u32v ua, u32v ub, u32v uc, u32v ud]] _ _
  have hbl : ∀ W, Calls Tryz.prog 144 #[.agg #[iv kind, iv (i : Int), iv life, iv round, iv tag, iv of, iv dur, u32v ha, u32v hb, u32v hc, u32v hd, u32v ua, u32v ub, u32v uc, u32v ud]] W (Gr (.agg #[iv 0, iv 0, iv 0, iv round, iv tag, iv of, iv dur, u32v ha, u32v hb, u32v hc, u32v hd, u32v ua, u32v ub, u32v uc, u32v ud]) W) := fun W => blank_any ⟨kind, i, life, round, tag, of, dur, ⟨ha, hb, hc, hd⟩, ⟨ua, ub, uc, ud⟩⟩ W
  have hgs := guardEv
  by_cases hba : (⟨0, 0, 0, round, tag, of, dur, ⟨ha, hb, hc, hd⟩, ⟨ua, ub, uc, ud⟩⟩ : Ev) = ⟨0, 0, 0, round, tag, 0, 0, .zero, .zero⟩
  case neg =>
    have heq : ∀ W, (Op.equalIn 10000 78 (.agg #[iv 0, iv 0, iv 0, iv round, iv tag, iv of, iv dur, u32v ha, u32v hb, u32v hc, u32v hd, u32v ua, u32v ub, u32v uc, u32v ud]) (.agg #[iv 0, iv 0, iv 0, iv round, iv tag, iv 0, iv 0, .int .u32 0, .int .u32 0, .int .u32 0, .int .u32 0, .int .u32 0, .int .u32 0, .int .u32 0, .int .u32 0])).run Tryz.prog W = .ok false W := fun W => (eqEv W ⟨0, 0, 0, round, tag, of, dur, ⟨ha, hb, hc, hd⟩, ⟨ua, ub, uc, ud⟩⟩ ⟨0, 0, 0, round, tag, 0, 0, .zero, .zero⟩).trans (by rw [decide_eq_false hba])
    have HNO := Lib.hid (fun h => hba h.1 : ¬ (BeginOk ⟨up, xlife, asked, xtag, opn⟩ ⟨kind, i, life, round, tag, of, dur, ⟨ha, hb, hc, hd⟩, ⟨ua, ub, uc, ud⟩⟩))
    clear hba
    go_enter Tryz.func137, Tryz.ntmps137
    go_wp2
    go_quiet (fail)
    go_wp2
    refine wp_region_head_call 8 (by kernel_rfl) (by kernel_rfl) ?_
    simp only [List.take_succ_cons, List.take_zero]
    repeat (go_big_quiet_step ((go_at_call 144; exact grows_of (hbl _))))
    refine wpQuiet_nil ?_
    intro gN o ho
    simp only [List.getElem?_cons_succ, List.getElem?_cons_zero, Option.some.injEq] at ho
    subst ho
    simp only [List.drop_succ_cons, List.drop_zero]
    go_simp
    go_at_call 143
    refine (need_no _).mono ?_
    rintro e' w' ⟨rfl, rfl⟩
    exact ⟨rfl, (by repeat (with_reducible first | exact Chg.refl _ _ | refine chg_m ?_ _ | refine chg_g ?_ _ | refine chg_alloc ?_ _ | refine chg_drew ?_ | refine chg_drewN ?_ _ | refine chg_set ?_ _ _ _)), .inr ⟨HNO.out, rfl⟩⟩
  have heq : ∀ W, (Op.equalIn 10000 78 (.agg #[iv 0, iv 0, iv 0, iv round, iv tag, iv of, iv dur, u32v ha, u32v hb, u32v hc, u32v hd, u32v ua, u32v ub, u32v uc, u32v ud]) (.agg #[iv 0, iv 0, iv 0, iv round, iv tag, iv 0, iv 0, .int .u32 0, .int .u32 0, .int .u32 0, .int .u32 0, .int .u32 0, .int .u32 0, .int .u32 0, .int .u32 0])).run Tryz.prog W = .ok true W := fun W => (eqEv W ⟨0, 0, 0, round, tag, of, dur, ⟨ha, hb, hc, hd⟩, ⟨ua, ub, uc, ud⟩⟩ ⟨0, 0, 0, round, tag, 0, 0, .zero, .zero⟩).trans (by rw [decide_eq_true hba])
  have HBA := Lib.hid hba
  clear hba
  go_enter Tryz.func137, Tryz.ntmps137
  go_wp2
  go_quiet (fail)
  go_wp2
  refine wp_region_head_call 8 (by kernel_rfl) (by kernel_rfl) ?_
  simp only [List.take_succ_cons, List.take_zero]
  repeat (go_big_quiet_step ((go_at_call 144; exact grows_of (hbl _))))
  refine wpQuiet_nil ?_
  intro gN o ho
  simp only [List.getElem?_cons_succ, List.getElem?_cons_zero, Option.some.injEq] at ho
  subst ho
  simp only [List.drop_succ_cons, List.drop_zero]
  go_simp
  go_at_call 143
  refine (need_yes _).mono ?_
  rintro e' w' ⟨rfl, rfl⟩
  dsimp only
  unfold RestQ
  refine wpQuiet_nil ?_
  intro gR
  go_wp2
  by_cases hq33_0 : up = true
  case pos =>
    have HNO : Hid (¬ (BeginOk ⟨up, xlife, asked, xtag, opn⟩ ⟨kind, i, life, round, tag, of, dur, ⟨ha, hb, hc, hd⟩, ⟨ua, ub, uc, ud⟩⟩)) := Lib.hid (by unfold BeginOk; rintro ⟨_, ⟨h1, h2, h3, h4, h5⟩, h6, h7⟩; first | omega | (dsimp only at *; omega) | contradiction | simp_all)
    subst hq33_0
    refine wp_region_head_call 33 (by kernel_rfl) (by kernel_rfl) ?_
    simp only [List.take_succ_cons, List.take_zero]
    repeat (go_big_quiet_step ((fail)))
    refine wpQuiet_nil ?_
    intro gN o ho
    simp only [List.getElem?_cons_succ, List.getElem?_cons_zero, Option.some.injEq] at ho
    subst ho
    simp only [List.drop_succ_cons, List.drop_zero]
    go_simp
    go_at_call 143
    refine (need_no _).mono ?_
    rintro e' w' ⟨rfl, rfl⟩
    exact ⟨rfl, (by repeat (with_reducible first | exact Chg.refl _ _ | refine chg_m ?_ _ | refine chg_g ?_ _ | refine chg_alloc ?_ _ | refine chg_drew ?_ | refine chg_drewN ?_ _ | refine chg_set ?_ _ _ _)), .inr ⟨HNO.out, rfl⟩⟩
  obtain rfl : up = false := by simpa using hq33_0
  by_cases hq33_1 : life ≤ xlife
  case pos =>
    have HNO : Hid (¬ (BeginOk ⟨false, xlife, asked, xtag, opn⟩ ⟨kind, i, life, round, tag, of, dur, ⟨ha, hb, hc, hd⟩, ⟨ua, ub, uc, ud⟩⟩)) := Lib.hid (by unfold BeginOk; rintro ⟨_, ⟨h1, h2, h3, h4, h5⟩, h6, h7⟩; first | omega | (dsimp only at *; omega) | contradiction | simp_all)
    have dq33_1 : decide (xlife < life) = false := by simp; omega
    clear hq33_1
    refine wp_region_head_call 33 (by kernel_rfl) (by kernel_rfl) ?_
    simp only [List.take_succ_cons, List.take_zero]
    repeat (go_big_quiet_step ((fail)))
    refine wpQuiet_nil ?_
    intro gN o ho
    simp only [List.getElem?_cons_succ, List.getElem?_cons_zero, Option.some.injEq] at ho
    subst ho
    simp only [List.drop_succ_cons, List.drop_zero]
    go_simp
    go_at_call 143
    refine (need_no _).mono ?_
    rintro e' w' ⟨rfl, rfl⟩
    exact ⟨rfl, (by repeat (with_reducible first | exact Chg.refl _ _ | refine chg_m ?_ _ | refine chg_g ?_ _ | refine chg_alloc ?_ _ | refine chg_drew ?_ | refine chg_drewN ?_ _ | refine chg_set ?_ _ _ _)), .inr ⟨HNO.out, rfl⟩⟩
  have dq33_1 : xlife < life := by omega
  clear hq33_1
  by_cases hq33_2 : round < 1
  case pos =>
    have HNO : Hid (¬ (BeginOk ⟨false, xlife, asked, xtag, opn⟩ ⟨kind, i, life, round, tag, of, dur, ⟨ha, hb, hc, hd⟩, ⟨ua, ub, uc, ud⟩⟩)) := Lib.hid (by unfold BeginOk; rintro ⟨_, ⟨h1, h2, h3, h4, h5⟩, h6, h7⟩; first | omega | (dsimp only at *; omega) | contradiction | simp_all)
    have dq33_2 : decide (1 ≤ round) = false := by simp; omega
    clear hq33_2
    refine wp_region_head_call 33 (by kernel_rfl) (by kernel_rfl) ?_
    simp only [List.take_succ_cons, List.take_zero]
    repeat (go_big_quiet_step ((fail)))
    refine wpQuiet_nil ?_
    intro gN o ho
    simp only [List.getElem?_cons_succ, List.getElem?_cons_zero, Option.some.injEq] at ho
    subst ho
    simp only [List.drop_succ_cons, List.drop_zero]
    go_simp
    go_at_call 143
    refine (need_no _).mono ?_
    rintro e' w' ⟨rfl, rfl⟩
    exact ⟨rfl, (by repeat (with_reducible first | exact Chg.refl _ _ | refine chg_m ?_ _ | refine chg_g ?_ _ | refine chg_alloc ?_ _ | refine chg_drew ?_ | refine chg_drewN ?_ _ | refine chg_set ?_ _ _ _)), .inr ⟨HNO.out, rfl⟩⟩
  have dq33_2 : 1 ≤ round := by omega
  clear hq33_2
  by_cases hq33_3 : 1099511627775 < round
  case pos =>
    have HNO : Hid (¬ (BeginOk ⟨false, xlife, asked, xtag, opn⟩ ⟨kind, i, life, round, tag, of, dur, ⟨ha, hb, hc, hd⟩, ⟨ua, ub, uc, ud⟩⟩)) := Lib.hid (by unfold BeginOk; rintro ⟨_, ⟨h1, h2, h3, h4, h5⟩, h6, h7⟩; first | omega | (dsimp only at *; omega) | contradiction | simp_all)
    have dq33_3 : decide (round ≤ 1099511627775) = false := by simp; omega
    clear hq33_3
    refine wp_region_head_call 33 (by kernel_rfl) (by kernel_rfl) ?_
    simp only [List.take_succ_cons, List.take_zero]
    repeat (go_big_quiet_step ((fail)))
    refine wpQuiet_nil ?_
    intro gN o ho
    simp only [List.getElem?_cons_succ, List.getElem?_cons_zero, Option.some.injEq] at ho
    subst ho
    simp only [List.drop_succ_cons, List.drop_zero]
    go_simp
    go_at_call 143
    refine (need_no _).mono ?_
    rintro e' w' ⟨rfl, rfl⟩
    exact ⟨rfl, (by repeat (with_reducible first | exact Chg.refl _ _ | refine chg_m ?_ _ | refine chg_g ?_ _ | refine chg_alloc ?_ _ | refine chg_drew ?_ | refine chg_drewN ?_ _ | refine chg_set ?_ _ _ _)), .inr ⟨HNO.out, rfl⟩⟩
  have dq33_3 : round ≤ 1099511627775 := by omega
  clear hq33_3
  by_cases hq33_4 : round ≤ asked
  case pos =>
    have HNO : Hid (¬ (BeginOk ⟨false, xlife, asked, xtag, opn⟩ ⟨kind, i, life, round, tag, of, dur, ⟨ha, hb, hc, hd⟩, ⟨ua, ub, uc, ud⟩⟩)) := Lib.hid (by unfold BeginOk; rintro ⟨_, ⟨h1, h2, h3, h4, h5⟩, h6, h7⟩; first | omega | (dsimp only at *; omega) | contradiction | simp_all)
    have dq33_4 : decide (asked < round) = false := by simp; omega
    clear hq33_4
    refine wp_region_head_call 33 (by kernel_rfl) (by kernel_rfl) ?_
    simp only [List.take_succ_cons, List.take_zero]
    repeat (go_big_quiet_step ((fail)))
    refine wpQuiet_nil ?_
    intro gN o ho
    simp only [List.getElem?_cons_succ, List.getElem?_cons_zero, Option.some.injEq] at ho
    subst ho
    simp only [List.drop_succ_cons, List.drop_zero]
    go_simp
    go_at_call 143
    refine (need_no _).mono ?_
    rintro e' w' ⟨rfl, rfl⟩
    exact ⟨rfl, (by repeat (with_reducible first | exact Chg.refl _ _ | refine chg_m ?_ _ | refine chg_g ?_ _ | refine chg_alloc ?_ _ | refine chg_drew ?_ | refine chg_drewN ?_ _ | refine chg_set ?_ _ _ _)), .inr ⟨HNO.out, rfl⟩⟩
  have dq33_4 : asked < round := by omega
  clear hq33_4
  refine wp_region_head_call 33 (by kernel_rfl) (by kernel_rfl) ?_
  simp only [List.take_succ_cons, List.take_zero]
  repeat (go_big_quiet_step ((fail)))
  refine wpQuiet_nil ?_
  intro gN o ho
  simp only [List.getElem?_cons_succ, List.getElem?_cons_zero, Option.some.injEq] at ho
  subst ho
  simp only [List.drop_succ_cons, List.drop_zero]
  go_simp
  go_at_call 143
  refine (need_yes _).mono ?_
  rintro e' w' ⟨rfl, rfl⟩
  dsimp only
  unfold RestQ
  refine wpQuiet_nil ?_
  intro gR
  go_wp2
  by_cases hq12_0 : tag < xtag
  case pos =>
    have HNO : Hid (¬ (BeginOk ⟨false, xlife, asked, xtag, opn⟩ ⟨kind, i, life, round, tag, of, dur, ⟨ha, hb, hc, hd⟩, ⟨ua, ub, uc, ud⟩⟩)) := Lib.hid (by unfold BeginOk; rintro ⟨_, ⟨h1, h2, h3, h4, h5⟩, h6, h7⟩; first | omega | (dsimp only at *; omega) | contradiction | simp_all)
    have dq12_0 : decide (xtag ≤ tag) = false := by simp; omega
    clear hq12_0
    refine wp_region_head_call 12 (by kernel_rfl) (by kernel_rfl) ?_
    simp only [List.take_succ_cons, List.take_zero]
    repeat (go_big_quiet_step ((fail)))
    refine wpQuiet_nil ?_
    intro gN o ho
    simp only [List.getElem?_cons_succ, List.getElem?_cons_zero, Option.some.injEq] at ho
    subst ho
    simp only [List.drop_succ_cons, List.drop_zero]
    go_simp
    go_at_call 143
    refine (need_no _).mono ?_
    rintro e' w' ⟨rfl, rfl⟩
    exact ⟨rfl, (by repeat (with_reducible first | exact Chg.refl _ _ | refine chg_m ?_ _ | refine chg_g ?_ _ | refine chg_alloc ?_ _ | refine chg_drew ?_ | refine chg_drewN ?_ _ | refine chg_set ?_ _ _ _)), .inr ⟨HNO.out, rfl⟩⟩
  have dq12_0 : xtag ≤ tag := by omega
  clear hq12_0
  by_cases hq12_1 : 1048576 < tag
  case pos =>
    have HNO : Hid (¬ (BeginOk ⟨false, xlife, asked, xtag, opn⟩ ⟨kind, i, life, round, tag, of, dur, ⟨ha, hb, hc, hd⟩, ⟨ua, ub, uc, ud⟩⟩)) := Lib.hid (by unfold BeginOk; rintro ⟨_, ⟨h1, h2, h3, h4, h5⟩, h6, h7⟩; first | omega | (dsimp only at *; omega) | contradiction | simp_all)
    have dq12_1 : decide (tag ≤ 1048576) = false := by simp; omega
    clear hq12_1
    refine wp_region_head_call 12 (by kernel_rfl) (by kernel_rfl) ?_
    simp only [List.take_succ_cons, List.take_zero]
    repeat (go_big_quiet_step ((fail)))
    refine wpQuiet_nil ?_
    intro gN o ho
    simp only [List.getElem?_cons_succ, List.getElem?_cons_zero, Option.some.injEq] at ho
    subst ho
    simp only [List.drop_succ_cons, List.drop_zero]
    go_simp
    go_at_call 143
    refine (need_no _).mono ?_
    rintro e' w' ⟨rfl, rfl⟩
    exact ⟨rfl, (by repeat (with_reducible first | exact Chg.refl _ _ | refine chg_m ?_ _ | refine chg_g ?_ _ | refine chg_alloc ?_ _ | refine chg_drew ?_ | refine chg_drewN ?_ _ | refine chg_set ?_ _ _ _)), .inr ⟨HNO.out, rfl⟩⟩
  have dq12_1 : tag ≤ 1048576 := by omega
  clear hq12_1
  refine wp_region_head_call 12 (by kernel_rfl) (by kernel_rfl) ?_
  simp only [List.take_succ_cons, List.take_zero]
  repeat (go_big_quiet_step ((fail)))
  refine wpQuiet_nil ?_
  intro gN o ho
  simp only [List.getElem?_cons_succ, List.getElem?_cons_zero, Option.some.injEq] at ho
  subst ho
  simp only [List.drop_succ_cons, List.drop_zero]
  go_simp
  go_at_call 143
  refine (need_yes _).mono ?_
  rintro e' w' ⟨rfl, rfl⟩
  dsimp only
  unfold RestQ
  refine wpQuiet_nil ?_
  intro gR
  go_wp2
  go_region
  go_end0
  refine ⟨(by repeat (with_reducible first | exact Chg.refl _ _ | refine chg_m ?_ _ | refine chg_g ?_ _ | refine chg_alloc ?_ _ | refine chg_drew ?_ | refine chg_drewN ?_ _ | refine chg_set ?_ _ _ _)), .inl ⟨⟨HBA.out, ⟨rfl, dq33_1, dq33_2, dq33_3, dq33_4⟩, dq12_0, dq12_1⟩, rfl, ?_⟩⟩
  refine AuIs.drew ?_
  refine AuIs.setq' 4 ⟨true, life, asked, tag, opn⟩ ⟨true, life, asked, tag, round⟩ _ (by decide) rfl HL.out ?_
  refine AuIs.setq' 3 ⟨true, life, asked, xtag, opn⟩ ⟨true, life, asked, tag, opn⟩ _ (by decide) rfl HL.out ?_
  refine AuIs.setq' 1 ⟨true, xlife, asked, xtag, opn⟩ ⟨true, life, asked, xtag, opn⟩ _ (by decide) rfl HL.out ?_
  refine AuIs.setq' 0 ⟨false, xlife, asked, xtag, opn⟩ ⟨true, xlife, asked, xtag, opn⟩ _ (by decide) rfl HL.out ?_
  refine AuIs.at (s := ⟨nodes, row, shut, last⟩) HX.out (HA.out.grow ?_)
  exact (by repeat (with_reducible first | exact Chg.refl _ _ | refine chg_m ?_ _ | refine chg_g ?_ _ | refine chg_alloc ?_ _ | refine chg_drew ?_ | refine chg_drewN ?_ _ | refine chg_set ?_ _ _ _))

def DefendOk (x : Nd) (e : Ev) : Prop := (Ev.blank e = ⟨0, 0, 0, 0, e.tag, 0, e.dur, .zero, .zero⟩) ∧ x.tag < e.tag ∧ e.tag ≤ e.dur ∧ e.dur ≤ 1048576

theorem defend_any (w : World) (p q n f : Nat) (s : Au) (e : Ev) (x : Nd) (i : Nat) (hA : AuIs w p q n f s) (he : e.ok) (hi : e.node = i) (hx : s.nodes[i]? = some x) :
    Calls Tryz.prog 141 #[.pointer (some ⟨p, 0, none⟩), e.v] w (Looked w p q n f (DefendOk x e) ⟨s.nodes.set i ⟨x.up, x.life, x.asked, e.tag, x.opn⟩, s.row, s.shut, s.last⟩) := by
  obtain ⟨kind, node, life, round, tag, of, dur, ⟨ha, hb, hc, hd⟩, ⟨ua, ub, uc, ud⟩⟩ := e
  obtain ⟨nodes, row, shut, last⟩ := s
  simp only at hi hx
  subst hi
  have hil := (List.getElem?_eq_some_iff.1 hx).1
  have hilt : i < n := by have := hA.len; simp only at this; omega
  have h100 := hA.n100
  have hfn := hA.fn
  have hi0 : (0 : Int) ≤ (i : Int) := by omega
  have hin : (i : Int) < (n : Int) := by omega
  have jp : Old p w := ⟨hA.ltp⟩
  have jq : Old q w := ⟨hA.ltq⟩
  have mp := may_p w p q
  have mq := may_q w p q
  have hne := hA.ne
  obtain ⟨cp0, fp0, kp0⟩ := hA.cellp 0 (iv n) rfl
  obtain ⟨cp2, fp2, kp2⟩ := hA.cellp 2 (.slice (some ⟨q, 0, none⟩) n n) rfl
  obtain ⟨up, xlife, asked, xtag, opn⟩ := x
  obtain ⟨cq0, fq0, kq0⟩ := hA.cellq i 0 _ (.bool up) hx (by omega) rfl
  obtain ⟨cq1, fq1, kq1⟩ := hA.cellq i 1 _ (iv xlife) hx (by omega) rfl
  obtain ⟨cq2, fq2, kq2⟩ := hA.cellq i 2 _ (iv asked) hx (by omega) rfl
  obtain ⟨cq3, fq3, kq3⟩ := hA.cellq i 3 _ (iv xtag) hx (by omega) rfl
  obtain ⟨cq4, fq4, kq4⟩ := hA.cellq i 4 _ (iv opn) hx (by omega) rfl
  simp only [Nat.add_zero] at cq0 fq0 kq0
  have HA := Lib.hid hA
  have HX := Lib.hid hx
  have HL := Lib.hid hil
  clear hA hx hil
  change Calls _ _ #[_, .agg #[iv kind, iv (i : Int), iv life, iv round, iv tag, iv of, iv dur, u32v ha, u32v hb, u32v hc, u32v hd, u32v ua, u32v ub, u32v uc, u32v ud]] _ _
  have hbl : ∀ W, Calls Tryz.prog 144 #[.agg #[iv kind, iv (i : Int), iv life, iv round, iv tag, iv of, iv dur, u32v ha, u32v hb, u32v hc, u32v hd, u32v ua, u32v ub, u32v uc, u32v ud]] W (Gr (.agg #[iv 0, iv 0, iv 0, iv round, iv tag, iv of, iv dur, u32v ha, u32v hb, u32v hc, u32v hd, u32v ua, u32v ub, u32v uc, u32v ud]) W) := fun W => blank_any ⟨kind, i, life, round, tag, of, dur, ⟨ha, hb, hc, hd⟩, ⟨ua, ub, uc, ud⟩⟩ W
  have hgs := guardEv
  by_cases hba : (⟨0, 0, 0, round, tag, of, dur, ⟨ha, hb, hc, hd⟩, ⟨ua, ub, uc, ud⟩⟩ : Ev) = ⟨0, 0, 0, 0, tag, 0, dur, .zero, .zero⟩
  case neg =>
    have heq : ∀ W, (Op.equalIn 10000 78 (.agg #[iv 0, iv 0, iv 0, iv round, iv tag, iv of, iv dur, u32v ha, u32v hb, u32v hc, u32v hd, u32v ua, u32v ub, u32v uc, u32v ud]) (.agg #[iv 0, iv 0, iv 0, iv 0, iv tag, iv 0, iv dur, .int .u32 0, .int .u32 0, .int .u32 0, .int .u32 0, .int .u32 0, .int .u32 0, .int .u32 0, .int .u32 0])).run Tryz.prog W = .ok false W := fun W => (eqEv W ⟨0, 0, 0, round, tag, of, dur, ⟨ha, hb, hc, hd⟩, ⟨ua, ub, uc, ud⟩⟩ ⟨0, 0, 0, 0, tag, 0, dur, .zero, .zero⟩).trans (by rw [decide_eq_false hba])
    have HNO := Lib.hid (fun h => hba h.1 : ¬ (DefendOk ⟨up, xlife, asked, xtag, opn⟩ ⟨kind, i, life, round, tag, of, dur, ⟨ha, hb, hc, hd⟩, ⟨ua, ub, uc, ud⟩⟩))
    clear hba
    go_enter Tryz.func141, Tryz.ntmps141
    go_wp2
    go_quiet (fail)
    go_wp2
    refine wp_region_head_call 8 (by kernel_rfl) (by kernel_rfl) ?_
    simp only [List.take_succ_cons, List.take_zero]
    repeat (go_big_quiet_step ((go_at_call 144; exact grows_of (hbl _))))
    refine wpQuiet_nil ?_
    intro gN o ho
    simp only [List.getElem?_cons_succ, List.getElem?_cons_zero, Option.some.injEq] at ho
    subst ho
    simp only [List.drop_succ_cons, List.drop_zero]
    go_simp
    go_at_call 143
    refine (need_no _).mono ?_
    rintro e' w' ⟨rfl, rfl⟩
    exact ⟨rfl, (by repeat (with_reducible first | exact Chg.refl _ _ | refine chg_m ?_ _ | refine chg_g ?_ _ | refine chg_alloc ?_ _ | refine chg_drew ?_ | refine chg_drewN ?_ _ | refine chg_set ?_ _ _ _)), .inr ⟨HNO.out, rfl⟩⟩
  have heq : ∀ W, (Op.equalIn 10000 78 (.agg #[iv 0, iv 0, iv 0, iv round, iv tag, iv of, iv dur, u32v ha, u32v hb, u32v hc, u32v hd, u32v ua, u32v ub, u32v uc, u32v ud]) (.agg #[iv 0, iv 0, iv 0, iv 0, iv tag, iv 0, iv dur, .int .u32 0, .int .u32 0, .int .u32 0, .int .u32 0, .int .u32 0, .int .u32 0, .int .u32 0, .int .u32 0])).run Tryz.prog W = .ok true W := fun W => (eqEv W ⟨0, 0, 0, round, tag, of, dur, ⟨ha, hb, hc, hd⟩, ⟨ua, ub, uc, ud⟩⟩ ⟨0, 0, 0, 0, tag, 0, dur, .zero, .zero⟩).trans (by rw [decide_eq_true hba])
  have HBA := Lib.hid hba
  clear hba
  go_enter Tryz.func141, Tryz.ntmps141
  go_wp2
  go_quiet (fail)
  go_wp2
  refine wp_region_head_call 8 (by kernel_rfl) (by kernel_rfl) ?_
  simp only [List.take_succ_cons, List.take_zero]
  repeat (go_big_quiet_step ((go_at_call 144; exact grows_of (hbl _))))
  refine wpQuiet_nil ?_
  intro gN o ho
  simp only [List.getElem?_cons_succ, List.getElem?_cons_zero, Option.some.injEq] at ho
  subst ho
  simp only [List.drop_succ_cons, List.drop_zero]
  go_simp
  go_at_call 143
  refine (need_yes _).mono ?_
  rintro e' w' ⟨rfl, rfl⟩
  dsimp only
  unfold RestQ
  refine wpQuiet_nil ?_
  intro gR
  go_wp2
  by_cases hq19_0 : tag ≤ xtag
  case pos =>
    have HNO : Hid (¬ (DefendOk ⟨up, xlife, asked, xtag, opn⟩ ⟨kind, i, life, round, tag, of, dur, ⟨ha, hb, hc, hd⟩, ⟨ua, ub, uc, ud⟩⟩)) := Lib.hid (by unfold DefendOk; rintro ⟨_, h1, h2, h3⟩; first | omega | (dsimp only at *; omega) | contradiction | simp_all)
    have dq19_0 : decide (xtag < tag) = false := by simp; omega
    clear hq19_0
    refine wp_region_head_call 19 (by kernel_rfl) (by kernel_rfl) ?_
    simp only [List.take_succ_cons, List.take_zero]
    repeat (go_big_quiet_step ((fail)))
    refine wpQuiet_nil ?_
    intro gN o ho
    simp only [List.getElem?_cons_succ, List.getElem?_cons_zero, Option.some.injEq] at ho
    subst ho
    simp only [List.drop_succ_cons, List.drop_zero]
    go_simp
    go_at_call 143
    refine (need_no _).mono ?_
    rintro e' w' ⟨rfl, rfl⟩
    exact ⟨rfl, (by repeat (with_reducible first | exact Chg.refl _ _ | refine chg_m ?_ _ | refine chg_g ?_ _ | refine chg_alloc ?_ _ | refine chg_drew ?_ | refine chg_drewN ?_ _ | refine chg_set ?_ _ _ _)), .inr ⟨HNO.out, rfl⟩⟩
  have dq19_0 : xtag < tag := by omega
  clear hq19_0
  by_cases hq19_1 : dur < tag
  case pos =>
    have HNO : Hid (¬ (DefendOk ⟨up, xlife, asked, xtag, opn⟩ ⟨kind, i, life, round, tag, of, dur, ⟨ha, hb, hc, hd⟩, ⟨ua, ub, uc, ud⟩⟩)) := Lib.hid (by unfold DefendOk; rintro ⟨_, h1, h2, h3⟩; first | omega | (dsimp only at *; omega) | contradiction | simp_all)
    have dq19_1 : decide (tag ≤ dur) = false := by simp; omega
    clear hq19_1
    refine wp_region_head_call 19 (by kernel_rfl) (by kernel_rfl) ?_
    simp only [List.take_succ_cons, List.take_zero]
    repeat (go_big_quiet_step ((fail)))
    refine wpQuiet_nil ?_
    intro gN o ho
    simp only [List.getElem?_cons_succ, List.getElem?_cons_zero, Option.some.injEq] at ho
    subst ho
    simp only [List.drop_succ_cons, List.drop_zero]
    go_simp
    go_at_call 143
    refine (need_no _).mono ?_
    rintro e' w' ⟨rfl, rfl⟩
    exact ⟨rfl, (by repeat (with_reducible first | exact Chg.refl _ _ | refine chg_m ?_ _ | refine chg_g ?_ _ | refine chg_alloc ?_ _ | refine chg_drew ?_ | refine chg_drewN ?_ _ | refine chg_set ?_ _ _ _)), .inr ⟨HNO.out, rfl⟩⟩
  have dq19_1 : tag ≤ dur := by omega
  clear hq19_1
  by_cases hq19_2 : 1048576 < dur
  case pos =>
    have HNO : Hid (¬ (DefendOk ⟨up, xlife, asked, xtag, opn⟩ ⟨kind, i, life, round, tag, of, dur, ⟨ha, hb, hc, hd⟩, ⟨ua, ub, uc, ud⟩⟩)) := Lib.hid (by unfold DefendOk; rintro ⟨_, h1, h2, h3⟩; first | omega | (dsimp only at *; omega) | contradiction | simp_all)
    have dq19_2 : decide (dur ≤ 1048576) = false := by simp; omega
    clear hq19_2
    refine wp_region_head_call 19 (by kernel_rfl) (by kernel_rfl) ?_
    simp only [List.take_succ_cons, List.take_zero]
    repeat (go_big_quiet_step ((fail)))
    refine wpQuiet_nil ?_
    intro gN o ho
    simp only [List.getElem?_cons_succ, List.getElem?_cons_zero, Option.some.injEq] at ho
    subst ho
    simp only [List.drop_succ_cons, List.drop_zero]
    go_simp
    go_at_call 143
    refine (need_no _).mono ?_
    rintro e' w' ⟨rfl, rfl⟩
    exact ⟨rfl, (by repeat (with_reducible first | exact Chg.refl _ _ | refine chg_m ?_ _ | refine chg_g ?_ _ | refine chg_alloc ?_ _ | refine chg_drew ?_ | refine chg_drewN ?_ _ | refine chg_set ?_ _ _ _)), .inr ⟨HNO.out, rfl⟩⟩
  have dq19_2 : dur ≤ 1048576 := by omega
  clear hq19_2
  refine wp_region_head_call 19 (by kernel_rfl) (by kernel_rfl) ?_
  simp only [List.take_succ_cons, List.take_zero]
  repeat (go_big_quiet_step ((fail)))
  refine wpQuiet_nil ?_
  intro gN o ho
  simp only [List.getElem?_cons_succ, List.getElem?_cons_zero, Option.some.injEq] at ho
  subst ho
  simp only [List.drop_succ_cons, List.drop_zero]
  go_simp
  go_at_call 143
  refine (need_yes _).mono ?_
  rintro e' w' ⟨rfl, rfl⟩
  dsimp only
  unfold RestQ
  refine wpQuiet_nil ?_
  intro gR
  go_wp2
  go_end0
  refine ⟨(by repeat (with_reducible first | exact Chg.refl _ _ | refine chg_m ?_ _ | refine chg_g ?_ _ | refine chg_alloc ?_ _ | refine chg_drew ?_ | refine chg_drewN ?_ _ | refine chg_set ?_ _ _ _)), .inl ⟨⟨HBA.out, dq19_0, dq19_1, dq19_2⟩, rfl, ?_⟩⟩
  refine AuIs.setq' 3 ⟨up, xlife, asked, xtag, opn⟩ ⟨up, xlife, asked, tag, opn⟩ _ (by decide) rfl HL.out ?_
  refine AuIs.at (s := ⟨nodes, row, shut, last⟩) HX.out (HA.out.grow ?_)
  exact (by repeat (with_reducible first | exact Chg.refl _ _ | refine chg_m ?_ _ | refine chg_g ?_ _ | refine chg_alloc ?_ _ | refine chg_drew ?_ | refine chg_drewN ?_ _ | refine chg_set ?_ _ _ _))

def DownOk (e : Ev) : Prop := (Ev.blank e = ⟨0, 0, 0, 0, 0, 0, 0, .zero, .zero⟩) ∧ True

theorem down_any (w : World) (p q n f : Nat) (s : Au) (e : Ev) (x : Nd) (i : Nat) (hA : AuIs w p q n f s) (he : e.ok) (hi : e.node = i) (hx : s.nodes[i]? = some x) :
    Calls Tryz.prog 142 #[.pointer (some ⟨p, 0, none⟩), e.v] w (Looked w p q n f (DownOk e) ⟨s.nodes.set i ⟨false, x.life, x.asked, x.tag, x.opn⟩, s.row, s.shut, s.last⟩) := by
  obtain ⟨kind, node, life, round, tag, of, dur, ⟨ha, hb, hc, hd⟩, ⟨ua, ub, uc, ud⟩⟩ := e
  obtain ⟨nodes, row, shut, last⟩ := s
  simp only at hi hx
  subst hi
  have hil := (List.getElem?_eq_some_iff.1 hx).1
  have hilt : i < n := by have := hA.len; simp only at this; omega
  have h100 := hA.n100
  have hfn := hA.fn
  have hi0 : (0 : Int) ≤ (i : Int) := by omega
  have hin : (i : Int) < (n : Int) := by omega
  have jp : Old p w := ⟨hA.ltp⟩
  have jq : Old q w := ⟨hA.ltq⟩
  have mp := may_p w p q
  have mq := may_q w p q
  have hne := hA.ne
  obtain ⟨cp0, fp0, kp0⟩ := hA.cellp 0 (iv n) rfl
  obtain ⟨cp2, fp2, kp2⟩ := hA.cellp 2 (.slice (some ⟨q, 0, none⟩) n n) rfl
  obtain ⟨up, xlife, asked, xtag, opn⟩ := x
  obtain ⟨cq0, fq0, kq0⟩ := hA.cellq i 0 _ (.bool up) hx (by omega) rfl
  obtain ⟨cq1, fq1, kq1⟩ := hA.cellq i 1 _ (iv xlife) hx (by omega) rfl
  obtain ⟨cq2, fq2, kq2⟩ := hA.cellq i 2 _ (iv asked) hx (by omega) rfl
  obtain ⟨cq3, fq3, kq3⟩ := hA.cellq i 3 _ (iv xtag) hx (by omega) rfl
  obtain ⟨cq4, fq4, kq4⟩ := hA.cellq i 4 _ (iv opn) hx (by omega) rfl
  simp only [Nat.add_zero] at cq0 fq0 kq0
  have HA := Lib.hid hA
  have HX := Lib.hid hx
  have HL := Lib.hid hil
  clear hA hx hil
  change Calls _ _ #[_, .agg #[iv kind, iv (i : Int), iv life, iv round, iv tag, iv of, iv dur, u32v ha, u32v hb, u32v hc, u32v hd, u32v ua, u32v ub, u32v uc, u32v ud]] _ _
  have hbl : ∀ W, Calls Tryz.prog 144 #[.agg #[iv kind, iv (i : Int), iv life, iv round, iv tag, iv of, iv dur, u32v ha, u32v hb, u32v hc, u32v hd, u32v ua, u32v ub, u32v uc, u32v ud]] W (Gr (.agg #[iv 0, iv 0, iv 0, iv round, iv tag, iv of, iv dur, u32v ha, u32v hb, u32v hc, u32v hd, u32v ua, u32v ub, u32v uc, u32v ud]) W) := fun W => blank_any ⟨kind, i, life, round, tag, of, dur, ⟨ha, hb, hc, hd⟩, ⟨ua, ub, uc, ud⟩⟩ W
  have hgs := guardEv
  by_cases hba : (⟨0, 0, 0, round, tag, of, dur, ⟨ha, hb, hc, hd⟩, ⟨ua, ub, uc, ud⟩⟩ : Ev) = ⟨0, 0, 0, 0, 0, 0, 0, .zero, .zero⟩
  case neg =>
    have heq : ∀ W, (Op.equalIn 10000 78 (.agg #[iv 0, iv 0, iv 0, iv round, iv tag, iv of, iv dur, u32v ha, u32v hb, u32v hc, u32v hd, u32v ua, u32v ub, u32v uc, u32v ud]) (.agg #[iv 0, iv 0, iv 0, iv 0, iv 0, iv 0, iv 0, .int .u32 0, .int .u32 0, .int .u32 0, .int .u32 0, .int .u32 0, .int .u32 0, .int .u32 0, .int .u32 0])).run Tryz.prog W = .ok false W := fun W => (eqEv W ⟨0, 0, 0, round, tag, of, dur, ⟨ha, hb, hc, hd⟩, ⟨ua, ub, uc, ud⟩⟩ ⟨0, 0, 0, 0, 0, 0, 0, .zero, .zero⟩).trans (by rw [decide_eq_false hba])
    have HNO := Lib.hid (fun h => hba h.1 : ¬ (DownOk ⟨kind, i, life, round, tag, of, dur, ⟨ha, hb, hc, hd⟩, ⟨ua, ub, uc, ud⟩⟩))
    clear hba
    go_enter Tryz.func142, Tryz.ntmps142
    go_wp2_with fail
    refine (hbl _).mono ?_
    rintro e w' ⟨rfl, g1, rfl⟩
    go_wp2_with fail
    refine (need_no _).mono ?_
    rintro e' w' ⟨rfl, rfl⟩
    exact ⟨rfl, (by repeat (with_reducible first | exact Chg.refl _ _ | refine chg_m ?_ _ | refine chg_g ?_ _ | refine chg_alloc ?_ _ | refine chg_drew ?_ | refine chg_drewN ?_ _ | refine chg_set ?_ _ _ _)), .inr ⟨HNO.out, rfl⟩⟩
  have heq : ∀ W, (Op.equalIn 10000 78 (.agg #[iv 0, iv 0, iv 0, iv round, iv tag, iv of, iv dur, u32v ha, u32v hb, u32v hc, u32v hd, u32v ua, u32v ub, u32v uc, u32v ud]) (.agg #[iv 0, iv 0, iv 0, iv 0, iv 0, iv 0, iv 0, .int .u32 0, .int .u32 0, .int .u32 0, .int .u32 0, .int .u32 0, .int .u32 0, .int .u32 0, .int .u32 0])).run Tryz.prog W = .ok true W := fun W => (eqEv W ⟨0, 0, 0, round, tag, of, dur, ⟨ha, hb, hc, hd⟩, ⟨ua, ub, uc, ud⟩⟩ ⟨0, 0, 0, 0, 0, 0, 0, .zero, .zero⟩).trans (by rw [decide_eq_true hba])
  have HBA := Lib.hid hba
  clear hba
  go_enter Tryz.func142, Tryz.ntmps142
  go_wp2_with fail
  refine (hbl _).mono ?_
  rintro e w' ⟨rfl, g1, rfl⟩
  go_wp2_with fail
  refine (need_yes _).mono ?_
  rintro e' w' ⟨rfl, rfl⟩
  go_wp2
  go_region
  go_end0
  refine ⟨(by repeat (with_reducible first | exact Chg.refl _ _ | refine chg_m ?_ _ | refine chg_g ?_ _ | refine chg_alloc ?_ _ | refine chg_drew ?_ | refine chg_drewN ?_ _ | refine chg_set ?_ _ _ _)), .inl ⟨⟨HBA.out, trivial⟩, rfl, ?_⟩⟩
  refine AuIs.drew ?_
  refine AuIs.setq' 0 ⟨up, xlife, asked, xtag, opn⟩ ⟨false, xlife, asked, xtag, opn⟩ _ (by decide) rfl HL.out ?_
  refine AuIs.at (s := ⟨nodes, row, shut, last⟩) HX.out (HA.out.grow ?_)
  exact (by repeat (with_reducible first | exact Chg.refl _ _ | refine chg_m ?_ _ | refine chg_g ?_ _ | refine chg_alloc ?_ _ | refine chg_drew ?_ | refine chg_drewN ?_ _ | refine chg_set ?_ _ _ _))
end Go.Proofs.YteemkceceaabkaaGreat
