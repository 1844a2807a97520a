/- Package audit: what its methods do: begin, ask, close, doubt, defend, down. -/
import Derived.Test.YteemkceceaabkaaGreatAx0
import Derived.Test.YteemkceceaabkaaGreatSx
namespace Go.Proofs.YteemkceceaabkaaGreat
open Go.RowKit Go.Ear
set_option maxHeartbeats 4000000
set_option maxRecDepth 100000
set_option linter.unusedSimpArgs false
attribute [local go_sem ↓] Go.wp_at_zero Go.wp_at_succ

def DoubtOk (n : Nat) (s : Au) (e : Ev) : Prop := (Ev.blank e = ⟨0, 0, 0, e.round, e.tag, e.of, 0, .zero, .zero⟩) ∧ (0 ≤ e.of ∧ e.of < n ∧ s.shut.union.has e.of = false ∧ s.last < e.of) ∧ 0 ≤ e.tag ∧ e.tag ≤ 1048576 ∧ e.round = s.shut.round

theorem doubt_any (w : World) (p q n f : Nat) (s : Au) (e : Ev) (x : Nd) (i : Nat) (hA : AuIs w p q n f s) (he : e.ok) (hi : e.node = i) (hx : s.nodes[i]? = some x) :
    Calls Tryz.prog 140 #[.pointer (some ⟨p, 0, none⟩), e.v] w (Looked w p q n f (DoubtOk n s e) s) := by
  obtain ⟨kind, node, life, round, tag, of, dur, ⟨ha, hb, hc, hd⟩, ⟨ua, ub, uc, ud⟩⟩ := e
  obtain ⟨nodes, row, shut, last⟩ := s
  simp only at hi hx
  subst hi
  have hil := (List.getElem?_eq_some_iff.1 hx).1
  have hilt : i < n := by have := hA.len; simp only at this; omega
  have h100 := hA.n100
  have hfn := hA.fn
  have hi0 : (0 : Int) ≤ (i : Int) := by omega
  have hin : (i : Int) < (n : Int) := by omega
  have jp : Old p w := ⟨hA.ltp⟩
  have jq : Old q w := ⟨hA.ltq⟩
  have mp := may_p w p q
  have mq := may_q w p q
  have hne := hA.ne
  obtain ⟨cp0, fp0, kp0⟩ := hA.cellp 0 (iv n) rfl
  obtain ⟨cp2, fp2, kp2⟩ := hA.cellp 2 (.slice (some ⟨q, 0, none⟩) n n) rfl
  obtain ⟨cp7, fp7, kp7⟩ := hA.cellp 7 (iv shut.round) rfl
  obtain ⟨cp15, fp15, kp15⟩ := hA.cellp 15 (u32v shut.union.a) rfl
  obtain ⟨cp16, fp16, kp16⟩ := hA.cellp 16 (u32v shut.union.b) rfl
  obtain ⟨cp17, fp17, kp17⟩ := hA.cellp 17 (u32v shut.union.c) rfl
  obtain ⟨cp18, fp18, kp18⟩ := hA.cellp 18 (u32v shut.union.d) rfl
  obtain ⟨cp19, fp19, kp19⟩ := hA.cellp 19 (iv last) rfl
  obtain ⟨up, xlife, asked, xtag, opn⟩ := x
  have hso := hA.shut
  simp only at hso
  have HA := Lib.hid hA
  have HX := Lib.hid hx
  have HL := Lib.hid hil
  clear hA hx hil
  change Calls _ _ #[_, .agg #[iv kind, iv (i : Int), iv life, iv round, iv tag, iv of, iv dur, u32v ha, u32v hb, u32v hc, u32v hd, u32v ua, u32v ub, u32v uc, u32v ud]] _ _
  have hh : ∀ W, Calls Tryz.prog 147 #[.agg #[u32v shut.union.a, u32v shut.union.b, u32v shut.union.c, u32v shut.union.d], iv of] W (Gr (.bool (St.has shut.union of)) W) := fun W => has_any shut.union hso.2 of W
  clear hso he
  have hok : DoubtOk n ⟨nodes, row, shut, last⟩ ⟨kind, i, life, round, tag, of, dur, ⟨ha, hb, hc, hd⟩, ⟨ua, ub, uc, ud⟩⟩ ↔ ((⟨0, 0, 0, round, tag, of, dur, ⟨ha, hb, hc, hd⟩, ⟨ua, ub, uc, ud⟩⟩ : Ev) = ⟨0, 0, 0, round, tag, of, 0, .zero, .zero⟩ ∧ (0 ≤ of ∧ of < n ∧ St.has shut.union of = false ∧ last < of) ∧ 0 ≤ tag ∧ tag ≤ 1048576 ∧ round = shut.round) := Iff.rfl
  have HOK := Lib.hid hok
  clear hok
  generalize DoubtOk n ⟨nodes, row, shut, last⟩ ⟨kind, i, life, round, tag, of, dur, ⟨ha, hb, hc, hd⟩, ⟨ua, ub, uc, ud⟩⟩ = OK at HOK ⊢
  generalize St.has shut.union of = b3 at *
  have hbl : ∀ W, Calls Tryz.prog 144 #[.agg #[iv kind, iv (i : Int), iv life, iv round, iv tag, iv of, iv dur, u32v ha, u32v hb, u32v hc, u32v hd, u32v ua, u32v ub, u32v uc, u32v ud]] W (Gr (.agg #[iv 0, iv 0, iv 0, iv round, iv tag, iv of, iv dur, u32v ha, u32v hb, u32v hc, u32v hd, u32v ua, u32v ub, u32v uc, u32v ud]) W) := fun W => blank_any ⟨kind, i, life, round, tag, of, dur, ⟨ha, hb, hc, hd⟩, ⟨ua, ub, uc, ud⟩⟩ W
  have hgs := guardEv
  by_cases hba : (⟨0, 0, 0, round, tag, of, dur, ⟨ha, hb, hc, hd⟩, ⟨ua, ub, uc, ud⟩⟩ : Ev) = ⟨0, 0, 0, round, tag, of, 0, .zero, .zero⟩
  case neg =>
    have heq : ∀ W, (Op.equalIn 10000 78 (.agg #[iv 0, iv 0, iv 0, iv round, iv tag, iv of, iv dur, u32v ha, u32v hb, u32v hc, u32v hd, u32v ua, u32v ub, u32v uc, u32v ud]) (.agg #[iv 0, iv 0, iv 0, iv round, iv tag, iv of, iv 0, .int .u32 0, .int .u32 0, .int .u32 0, .int .u32 0, .int .u32 0, .int .u32 0, .int .u32 0, .int .u32 0])).run Tryz.prog W = .ok false W := fun W => (eqEv W ⟨0, 0, 0, round, tag, of, dur, ⟨ha, hb, hc, hd⟩, ⟨ua, ub, uc, ud⟩⟩ ⟨0, 0, 0, round, tag, of, 0, .zero, .zero⟩).trans (by rw [decide_eq_false hba])
    have HNO := Lib.hid (fun h => hba (HOK.out.1 h).1 : ¬ OK)
    clear hba
    go_enter Tryz.func140, Tryz.ntmps140
    go_wp2
    refine wp_region_head_call 10 (by kernel_rfl) (by kernel_rfl) ?_
    simp only [List.take_succ_cons, List.take_zero]
    repeat (go_big_quiet_step ((go_at_call 144; exact grows_of (hbl _))))
    refine wpQuiet_nil ?_
    intro gN o ho
    simp only [List.getElem?_cons_succ, List.getElem?_cons_zero, Option.some.injEq] at ho
    subst ho
    simp only [List.drop_succ_cons, List.drop_zero]
    go_simp
    go_at_call 143
    refine (need_no _).mono ?_
    rintro e' w' ⟨rfl, rfl⟩
    exact ⟨rfl, (by repeat (with_reducible first | exact Chg.refl _ _ | refine chg_m ?_ _ | refine chg_g ?_ _ | refine chg_alloc ?_ _ | refine chg_drew ?_ | refine chg_drewN ?_ _ | refine chg_set ?_ _ _ _)), .inr ⟨HNO.out, rfl⟩⟩
  have heq : ∀ W, (Op.equalIn 10000 78 (.agg #[iv 0, iv 0, iv 0, iv round, iv tag, iv of, iv dur, u32v ha, u32v hb, u32v hc, u32v hd, u32v ua, u32v ub, u32v uc, u32v ud]) (.agg #[iv 0, iv 0, iv 0, iv round, iv tag, iv of, iv 0, .int .u32 0, .int .u32 0, .int .u32 0, .int .u32 0, .int .u32 0, .int .u32 0, .int .u32 0, .int .u32 0])).run Tryz.prog W = .ok true W := fun W => (eqEv W ⟨0, 0, 0, round, tag, of, dur, ⟨ha, hb, hc, hd⟩, ⟨ua, ub, uc, ud⟩⟩ ⟨0, 0, 0, round, tag, of, 0, .zero, .zero⟩).trans (by rw [decide_eq_true hba])
  have HBA := Lib.hid hba
  clear hba
  go_enter Tryz.func140, Tryz.ntmps140
  go_wp2
  refine wp_region_head_call 10 (by kernel_rfl) (by kernel_rfl) ?_
  simp only [List.take_succ_cons, List.take_zero]
  repeat (go_big_quiet_step ((go_at_call 144; exact grows_of (hbl _))))
  refine wpQuiet_nil ?_
  intro gN o ho
  simp only [List.getElem?_cons_succ, List.getElem?_cons_zero, Option.some.injEq] at ho
  subst ho
  simp only [List.drop_succ_cons, List.drop_zero]
  go_simp
  go_at_call 143
  refine (need_yes _).mono ?_
  rintro e' w' ⟨rfl, rfl⟩
  dsimp only
  unfold RestQ
  refine wpQuiet_nil ?_
  intro gR
  go_wp2
  by_cases hq32_0 : of < 0
  case pos =>
    have HNO : Hid (¬ (OK)) := Lib.hid (by rw [HOK.out]; rintro ⟨_, ⟨h1, h2, h3, h4⟩, h5, h6, h7⟩; first | omega | (dsimp only at *; omega) | contradiction | simp_all)
    have dq32_0 : decide (0 ≤ of) = false := by simp; omega
    clear hq32_0
    refine wp_region_head_call 32 (by kernel_rfl) (by kernel_rfl) ?_
    simp only [List.take_succ_cons, List.take_zero]
    repeat (go_big_quiet_step ((go_at_call 147; exact grows_of (hh _))))
    refine wpQuiet_nil ?_
    intro gN o ho
    simp only [List.getElem?_cons_succ, List.getElem?_cons_zero, Option.some.injEq] at ho
    subst ho
    simp only [List.drop_succ_cons, List.drop_zero]
    go_simp
    go_at_call 143
    refine (need_no _).mono ?_
    rintro e' w' ⟨rfl, rfl⟩
    exact ⟨rfl, (by repeat (with_reducible first | exact Chg.refl _ _ | refine chg_m ?_ _ | refine chg_g ?_ _ | refine chg_alloc ?_ _ | refine chg_drew ?_ | refine chg_drewN ?_ _ | refine chg_set ?_ _ _ _)), .inr ⟨HNO.out, rfl⟩⟩
  have dq32_0 : 0 ≤ of := by omega
  clear hq32_0
  by_cases hq32_1 : (n : Int) ≤ of
  case pos =>
    have HNO : Hid (¬ (OK)) := Lib.hid (by rw [HOK.out]; rintro ⟨_, ⟨h1, h2, h3, h4⟩, h5, h6, h7⟩; first | omega | (dsimp only at *; omega) | contradiction | simp_all)
    have dq32_1 : decide (of < (n : Int)) = false := by simp; omega
    clear hq32_1
    refine wp_region_head_call 32 (by kernel_rfl) (by kernel_rfl) ?_
    simp only [List.take_succ_cons, List.take_zero]
    repeat (go_big_quiet_step ((go_at_call 147; exact grows_of (hh _))))
    refine wpQuiet_nil ?_
    intro gN o ho
    simp only [List.getElem?_cons_succ, List.getElem?_cons_zero, Option.some.injEq] at ho
    subst ho
    simp only [List.drop_succ_cons, List.drop_zero]
    go_simp
    go_at_call 143
    refine (need_no _).mono ?_
    rintro e' w' ⟨rfl, rfl⟩
    exact ⟨rfl, (by repeat (with_reducible first | exact Chg.refl _ _ | refine chg_m ?_ _ | refine chg_g ?_ _ | refine chg_alloc ?_ _ | refine chg_drew ?_ | refine chg_drewN ?_ _ | refine chg_set ?_ _ _ _)), .inr ⟨HNO.out, rfl⟩⟩
  have dq32_1 : of < (n : Int) := by omega
  clear hq32_1
  by_cases hq32_2 : b3 = true
  case pos =>
    have HNO : Hid (¬ (OK)) := Lib.hid (by rw [HOK.out]; rintro ⟨_, ⟨h1, h2, h3, h4⟩, h5, h6, h7⟩; first | omega | (dsimp only at *; omega) | contradiction | simp_all)
    subst hq32_2
    refine wp_region_head_call 32 (by kernel_rfl) (by kernel_rfl) ?_
    simp only [List.take_succ_cons, List.take_zero]
    repeat (go_big_quiet_step ((go_at_call 147; exact grows_of (hh _))))
    refine wpQuiet_nil ?_
    intro gN o ho
    simp only [List.getElem?_cons_succ, List.getElem?_cons_zero, Option.some.injEq] at ho
    subst ho
    simp only [List.drop_succ_cons, List.drop_zero]
    go_simp
    go_at_call 143
    refine (need_no _).mono ?_
    rintro e' w' ⟨rfl, rfl⟩
    exact ⟨rfl, (by repeat (with_reducible first | exact Chg.refl _ _ | refine chg_m ?_ _ | refine chg_g ?_ _ | refine chg_alloc ?_ _ | refine chg_drew ?_ | refine chg_drewN ?_ _ | refine chg_set ?_ _ _ _)), .inr ⟨HNO.out, rfl⟩⟩
  obtain rfl : b3 = false := by simpa using hq32_2
  by_cases hq32_3 : of ≤ last
  case pos =>
    have HNO : Hid (¬ (OK)) := Lib.hid (by rw [HOK.out]; rintro ⟨_, ⟨h1, h2, h3, h4⟩, h5, h6, h7⟩; first | omega | (dsimp only at *; omega) | contradiction | simp_all)
    have dq32_3 : decide (last < of) = false := by simp; omega
    clear hq32_3
    refine wp_region_head_call 32 (by kernel_rfl) (by kernel_rfl) ?_
    simp only [List.take_succ_cons, List.take_zero]
    repeat (go_big_quiet_step ((go_at_call 147; exact grows_of (hh _))))
    refine wpQuiet_nil ?_
    intro gN o ho
    simp only [List.getElem?_cons_succ, List.getElem?_cons_zero, Option.some.injEq] at ho
    subst ho
    simp only [List.drop_succ_cons, List.drop_zero]
    go_simp
    go_at_call 143
    refine (need_no _).mono ?_
    rintro e' w' ⟨rfl, rfl⟩
    exact ⟨rfl, (by repeat (with_reducible first | exact Chg.refl _ _ | refine chg_m ?_ _ | refine chg_g ?_ _ | refine chg_alloc ?_ _ | refine chg_drew ?_ | refine chg_drewN ?_ _ | refine chg_set ?_ _ _ _)), .inr ⟨HNO.out, rfl⟩⟩
  have dq32_3 : last < of := by omega
  clear hq32_3
  refine wp_region_head_call 32 (by kernel_rfl) (by kernel_rfl) ?_
  simp only [List.take_succ_cons, List.take_zero]
  repeat (go_big_quiet_step ((go_at_call 147; exact grows_of (hh _))))
  refine wpQuiet_nil ?_
  intro gN o ho
  simp only [List.getElem?_cons_succ, List.getElem?_cons_zero, Option.some.injEq] at ho
  subst ho
  simp only [List.drop_succ_cons, List.drop_zero]
  go_simp
  go_at_call 143
  refine (need_yes _).mono ?_
  rintro e' w' ⟨rfl, rfl⟩
  dsimp only
  unfold RestQ
  refine wpQuiet_nil ?_
  intro gR
  go_wp2
  by_cases hq18_0 : tag < 0
  case pos =>
    have HNO : Hid (¬ (OK)) := Lib.hid (by rw [HOK.out]; rintro ⟨_, ⟨h1, h2, h3, h4⟩, h5, h6, h7⟩; first | omega | (dsimp only at *; omega) | contradiction | simp_all)
    have dq18_0 : decide (0 ≤ tag) = false := by simp; omega
    clear hq18_0
    refine wp_region_head_call 18 (by kernel_rfl) (by kernel_rfl) ?_
    simp only [List.take_succ_cons, List.take_zero]
    repeat (go_big_quiet_step ((fail)))
    refine wpQuiet_nil ?_
    intro gN o ho
    simp only [List.getElem?_cons_succ, List.getElem?_cons_zero, Option.some.injEq] at ho
    subst ho
    simp only [List.drop_succ_cons, List.drop_zero]
    go_simp
    go_at_call 143
    refine (need_no _).mono ?_
    rintro e' w' ⟨rfl, rfl⟩
    exact ⟨rfl, (by repeat (with_reducible first | exact Chg.refl _ _ | refine chg_m ?_ _ | refine chg_g ?_ _ | refine chg_alloc ?_ _ | refine chg_drew ?_ | refine chg_drewN ?_ _ | refine chg_set ?_ _ _ _)), .inr ⟨HNO.out, rfl⟩⟩
  have dq18_0 : 0 ≤ tag := by omega
  clear hq18_0
  by_cases hq18_1 : 1048576 < tag
  case pos =>
    have HNO : Hid (¬ (OK)) := Lib.hid (by rw [HOK.out]; rintro ⟨_, ⟨h1, h2, h3, h4⟩, h5, h6, h7⟩; first | omega | (dsimp only at *; omega) | contradiction | simp_all)
    have dq18_1 : decide (tag ≤ 1048576) = false := by simp; omega
    clear hq18_1
    refine wp_region_head_call 18 (by kernel_rfl) (by kernel_rfl) ?_
    simp only [List.take_succ_cons, List.take_zero]
    repeat (go_big_quiet_step ((fail)))
    refine wpQuiet_nil ?_
    intro gN o ho
    simp only [List.getElem?_cons_succ, List.getElem?_cons_zero, Option.some.injEq] at ho
    subst ho
    simp only [List.drop_succ_cons, List.drop_zero]
    go_simp
    go_at_call 143
    refine (need_no _).mono ?_
    rintro e' w' ⟨rfl, rfl⟩
    exact ⟨rfl, (by repeat (with_reducible first | exact Chg.refl _ _ | refine chg_m ?_ _ | refine chg_g ?_ _ | refine chg_alloc ?_ _ | refine chg_drew ?_ | refine chg_drewN ?_ _ | refine chg_set ?_ _ _ _)), .inr ⟨HNO.out, rfl⟩⟩
  have dq18_1 : tag ≤ 1048576 := by omega
  clear hq18_1
  by_cases hq18_2 : ¬ round = shut.round
  case pos =>
    have HNO : Hid (¬ (OK)) := Lib.hid (by rw [HOK.out]; rintro ⟨_, ⟨h1, h2, h3, h4⟩, h5, h6, h7⟩; first | omega | (dsimp only at *; omega) | contradiction | simp_all)
    have dq18_2 : ((round : Int) == shut.round) = false := by rw [beq_eq_false_iff_ne]; exact hq18_2
    clear hq18_2
    refine wp_region_head_call 18 (by kernel_rfl) (by kernel_rfl) ?_
    simp only [List.take_succ_cons, List.take_zero]
    repeat (go_big_quiet_step ((fail)))
    refine wpQuiet_nil ?_
    intro gN o ho
    simp only [List.getElem?_cons_succ, List.getElem?_cons_zero, Option.some.injEq] at ho
    subst ho
    simp only [List.drop_succ_cons, List.drop_zero]
    go_simp
    go_at_call 143
    refine (need_no _).mono ?_
    rintro e' w' ⟨rfl, rfl⟩
    exact ⟨rfl, (by repeat (with_reducible first | exact Chg.refl _ _ | refine chg_m ?_ _ | refine chg_g ?_ _ | refine chg_alloc ?_ _ | refine chg_drew ?_ | refine chg_drewN ?_ _ | refine chg_set ?_ _ _ _)), .inr ⟨HNO.out, rfl⟩⟩
  have eq18_2 : round = shut.round := Decidable.not_not.1 hq18_2
  have dq18_2 : ((round : Int) == shut.round) = true := by rw [beq_iff_eq]; exact eq18_2
  have HQ18_2 := Lib.hid eq18_2
  clear hq18_2 eq18_2
  refine wp_region_head_call 18 (by kernel_rfl) (by kernel_rfl) ?_
  simp only [List.take_succ_cons, List.take_zero]
  repeat (go_big_quiet_step ((fail)))
  refine wpQuiet_nil ?_
  intro gN o ho
  simp only [List.getElem?_cons_succ, List.getElem?_cons_zero, Option.some.injEq] at ho
  subst ho
  simp only [List.drop_succ_cons, List.drop_zero]
  go_simp
  go_at_call 143
  refine (need_yes _).mono ?_
  rintro e' w' ⟨rfl, rfl⟩
  dsimp only
  unfold RestQ
  refine wpQuiet_nil ?_
  intro gR
  go_wp2
  go_end0
  refine ⟨(by repeat (with_reducible first | exact Chg.refl _ _ | refine chg_m ?_ _ | refine chg_g ?_ _ | refine chg_alloc ?_ _ | refine chg_drew ?_ | refine chg_drewN ?_ _ | refine chg_set ?_ _ _ _)), .inl ⟨HOK.out.2 ⟨HBA.out, ⟨dq32_0, dq32_1, (by simp), dq32_3⟩, dq18_0, dq18_1, HQ18_2.out⟩, rfl, ?_⟩⟩
  exact HA.out.grow (by repeat (with_reducible first | exact Chg.refl _ _ | refine chg_m ?_ _ | refine chg_g ?_ _ | refine chg_alloc ?_ _ | refine chg_drew ?_ | refine chg_drewN ?_ _ | refine chg_set ?_ _ _ _))
end Go.Proofs.YteemkceceaabkaaGreat
