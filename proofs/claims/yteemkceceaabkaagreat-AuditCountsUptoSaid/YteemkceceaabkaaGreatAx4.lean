/- Package audit: what its methods do: begin, ask, close, doubt, defend, down. -/
import Derived.Test.YteemkceceaabkaaGreatAx0
import Derived.Test.YteemkceceaabkaaGreatSx
namespace Go.Proofs.YteemkceceaabkaaGreat
open Go.RowKit Go.Ear
set_option maxHeartbeats 4000000
set_option maxRecDepth 100000
set_option linter.unusedSimpArgs false
attribute [local go_sem ↓] Go.wp_at_zero Go.wp_at_succ

def CloseOk (n f : Nat) (x : Nd) (e : Ev) : Prop := (Ev.blank e = ⟨0, 0, 0, e.round, 0, 0, 0, e.heard, e.union⟩) ∧ e.round = x.opn ∧ (e.heard.within n = true ∧ (e.heard.ids.length : Int) = (n : Int) - f ∧ e.heard.has e.node = true) ∧ e.union.within n = true ∧ St.sub e.heard e.union = true

theorem close_any (w : World) (p q n f : Nat) (s : Au) (e : Ev) (x : Nd) (i : Nat) (hA : AuIs w p q n f s) (he : e.ok) (hi : e.node = i) (hx : s.nodes[i]? = some x) :
    Calls Tryz.prog 139 #[.pointer (some ⟨p, 0, none⟩), e.v] w (Looked w p q n f (CloseOk n f x e) ⟨s.nodes, s.row, e, s.last⟩) := by
  obtain ⟨kind, node, life, round, tag, of, dur, ⟨ha, hb, hc, hd⟩, ⟨ua, ub, uc, ud⟩⟩ := e
  obtain ⟨nodes, row, shut, last⟩ := s
  simp only at hi hx
  subst hi
  have hil := (List.getElem?_eq_some_iff.1 hx).1
  have hilt : i < n := by have := hA.len; simp only at this; omega
  have h100 := hA.n100
  have hfn := hA.fn
  have hi0 : (0 : Int) ≤ (i : Int) := by omega
  have hin : (i : Int) < (n : Int) := by omega
  have jp : Old p w := ⟨hA.ltp⟩
  have jq : Old q w := ⟨hA.ltq⟩
  have mp := may_p w p q
  have mq := may_q w p q
  have hne := hA.ne
  obtain ⟨cp0, fp0, kp0⟩ := hA.cellp 0 (iv n) rfl
  obtain ⟨cp1, fp1, kp1⟩ := hA.cellp 1 (iv f) rfl
  obtain ⟨cp2, fp2, kp2⟩ := hA.cellp 2 (.slice (some ⟨q, 0, none⟩) n n) rfl
  obtain ⟨cp4, fp4, kp4⟩ := hA.cellp 4 (iv shut.kind) rfl
  obtain ⟨cp5, fp5, kp5⟩ := hA.cellp 5 (iv shut.node) rfl
  obtain ⟨cp6, fp6, kp6⟩ := hA.cellp 6 (iv shut.life) rfl
  obtain ⟨cp7, fp7, kp7⟩ := hA.cellp 7 (iv shut.round) rfl
  obtain ⟨cp8, fp8, kp8⟩ := hA.cellp 8 (iv shut.tag) rfl
  obtain ⟨cp9, fp9, kp9⟩ := hA.cellp 9 (iv shut.of) rfl
  obtain ⟨cp10, fp10, kp10⟩ := hA.cellp 10 (iv shut.dur) rfl
  obtain ⟨cp11, fp11, kp11⟩ := hA.cellp 11 (u32v shut.heard.a) rfl
  obtain ⟨cp12, fp12, kp12⟩ := hA.cellp 12 (u32v shut.heard.b) rfl
  obtain ⟨cp13, fp13, kp13⟩ := hA.cellp 13 (u32v shut.heard.c) rfl
  obtain ⟨cp14, fp14, kp14⟩ := hA.cellp 14 (u32v shut.heard.d) rfl
  obtain ⟨cp15, fp15, kp15⟩ := hA.cellp 15 (u32v shut.union.a) rfl
  obtain ⟨cp16, fp16, kp16⟩ := hA.cellp 16 (u32v shut.union.b) rfl
  obtain ⟨cp17, fp17, kp17⟩ := hA.cellp 17 (u32v shut.union.c) rfl
  obtain ⟨cp18, fp18, kp18⟩ := hA.cellp 18 (u32v shut.union.d) rfl
  obtain ⟨up, xlife, asked, xtag, opn⟩ := x
  obtain ⟨cq4, fq4, kq4⟩ := hA.cellq i 4 _ (iv opn) hx (by omega) rfl
  have HA := Lib.hid hA
  have HX := Lib.hid hx
  have HL := Lib.hid hil
  clear hA hx hil
  change Calls _ _ #[_, .agg #[iv kind, iv (i : Int), iv life, iv round, iv tag, iv of, iv dur, u32v ha, u32v hb, u32v hc, u32v hd, u32v ua, u32v ub, u32v uc, u32v ud]] _ _
  have hw : ∀ W, Calls Tryz.prog 145 #[.agg #[u32v ha, u32v hb, u32v hc, u32v hd], iv n] W (Gr (.bool (St.within ⟨ha, hb, hc, hd⟩ n)) W) := fun W => by
    have := within_any ⟨ha, hb, hc, hd⟩ he.1 n W
    rwa [within_eq ⟨ha, hb, hc, hd⟩ he.1] at this
  have hw2 : ∀ W, Calls Tryz.prog 145 #[.agg #[u32v ua, u32v ub, u32v uc, u32v ud], iv n] W (Gr (.bool (St.within ⟨ua, ub, uc, ud⟩ n)) W) := fun W => by
    have := within_any ⟨ua, ub, uc, ud⟩ he.2 n W
    rwa [within_eq ⟨ua, ub, uc, ud⟩ he.2] at this
  have hk : ∀ W, Calls Tryz.prog 146 #[.agg #[u32v ha, u32v hb, u32v hc, u32v hd]] W (Gr (iv (St.ids ⟨ha, hb, hc, hd⟩).length) W) := fun W => by
    have := count_any ⟨ha, hb, hc, hd⟩ he.1 W
    rwa [count_eq ⟨ha, hb, hc, hd⟩ he.1] at this
  have hh : ∀ W, Calls Tryz.prog 147 #[.agg #[u32v ha, u32v hb, u32v hc, u32v hd], iv (i : Int)] W (Gr (.bool (St.has ⟨ha, hb, hc, hd⟩ i)) W) := fun W => has_any ⟨ha, hb, hc, hd⟩ he.1 i W
  have hs : ∀ W, Calls Tryz.prog 148 #[.agg #[u32v ha, u32v hb, u32v hc, u32v hd], .agg #[u32v ua, u32v ub, u32v uc, u32v ud]] W (Gr (.bool (St.sub ⟨ha, hb, hc, hd⟩ ⟨ua, ub, uc, ud⟩)) W) := fun W => by
    have := subset_any ⟨ha, hb, hc, hd⟩ ⟨ua, ub, uc, ud⟩ he.1 he.2 W
    rwa [subset_eq ⟨ha, hb, hc, hd⟩ ⟨ua, ub, uc, ud⟩ he.1 he.2] at this
  have HE := Lib.hid he
  clear he
  have hkl : (St.ids ⟨ha, hb, hc, hd⟩).length ≤ 100 := by unfold St.ids; exact Nat.le_trans (List.length_filter_le _ _) (by simp)
  have hok : CloseOk n f ⟨up, xlife, asked, xtag, opn⟩ ⟨kind, i, life, round, tag, of, dur, ⟨ha, hb, hc, hd⟩, ⟨ua, ub, uc, ud⟩⟩ ↔ ((⟨0, 0, 0, round, tag, of, dur, ⟨ha, hb, hc, hd⟩, ⟨ua, ub, uc, ud⟩⟩ : Ev) = ⟨0, 0, 0, round, 0, 0, 0, ⟨ha, hb, hc, hd⟩, ⟨ua, ub, uc, ud⟩⟩ ∧ round = opn ∧ (St.within ⟨ha, hb, hc, hd⟩ n = true ∧ ((St.ids ⟨ha, hb, hc, hd⟩).length : Int) = (n : Int) - f ∧ St.has ⟨ha, hb, hc, hd⟩ i = true) ∧ St.within ⟨ua, ub, uc, ud⟩ n = true ∧ St.sub ⟨ha, hb, hc, hd⟩ ⟨ua, ub, uc, ud⟩ = true) := Iff.rfl
  have HOK := Lib.hid hok
  clear hok
  generalize CloseOk n f ⟨up, xlife, asked, xtag, opn⟩ ⟨kind, i, life, round, tag, of, dur, ⟨ha, hb, hc, hd⟩, ⟨ua, ub, uc, ud⟩⟩ = OK at HOK ⊢
  generalize St.within ⟨ha, hb, hc, hd⟩ n = b1 at *
  generalize St.within ⟨ua, ub, uc, ud⟩ n = b2 at *
  generalize (St.ids ⟨ha, hb, hc, hd⟩).length = c1 at *
  generalize St.has ⟨ha, hb, hc, hd⟩ i = b3 at *
  generalize St.sub ⟨ha, hb, hc, hd⟩ ⟨ua, ub, uc, ud⟩ = b4 at *
  have hbl : ∀ W, Calls Tryz.prog 144 #[.agg #[iv kind, iv (i : Int), iv life, iv round, iv tag, iv of, iv dur, u32v ha, u32v hb, u32v hc, u32v hd, u32v ua, u32v ub, u32v uc, u32v ud]] W (Gr (.agg #[iv 0, iv 0, iv 0, iv round, iv tag, iv of, iv dur, u32v ha, u32v hb, u32v hc, u32v hd, u32v ua, u32v ub, u32v uc, u32v ud]) W) := fun W => blank_any ⟨kind, i, life, round, tag, of, dur, ⟨ha, hb, hc, hd⟩, ⟨ua, ub, uc, ud⟩⟩ W
  have hgs := guardEv
  by_cases hba : (⟨0, 0, 0, round, tag, of, dur, ⟨ha, hb, hc, hd⟩, ⟨ua, ub, uc, ud⟩⟩ : Ev) = ⟨0, 0, 0, round, 0, 0, 0, ⟨ha, hb, hc, hd⟩, ⟨ua, ub, uc, ud⟩⟩
  case neg =>
    have heq : ∀ W, (Op.equalIn 10000 78 (.agg #[iv 0, iv 0, iv 0, iv round, iv tag, iv of, iv dur, u32v ha, u32v hb, u32v hc, u32v hd, u32v ua, u32v ub, u32v uc, u32v ud]) (.agg #[iv 0, iv 0, iv 0, iv round, iv 0, iv 0, iv 0, u32v ha, u32v hb, u32v hc, u32v hd, u32v ua, u32v ub, u32v uc, u32v ud])).run Tryz.prog W = .ok false W := fun W => (eqEv W ⟨0, 0, 0, round, tag, of, dur, ⟨ha, hb, hc, hd⟩, ⟨ua, ub, uc, ud⟩⟩ ⟨0, 0, 0, round, 0, 0, 0, ⟨ha, hb, hc, hd⟩, ⟨ua, ub, uc, ud⟩⟩).trans (by rw [decide_eq_false hba])
    have HNO := Lib.hid (fun h => hba (HOK.out.1 h).1 : ¬ OK)
    clear hba
    go_enter Tryz.func139, Tryz.ntmps139
    go_wp2
    refine wp_region_head_call 10 (by kernel_rfl) (by kernel_rfl) ?_
    simp only [List.take_succ_cons, List.take_zero]
    repeat (go_big_quiet_step ((go_at_call 144; exact grows_of (hbl _))))
    refine wpQuiet_nil ?_
    intro gN o ho
    simp only [List.getElem?_cons_succ, List.getElem?_cons_zero, Option.some.injEq] at ho
    subst ho
    simp only [List.drop_succ_cons, List.drop_zero]
    go_simp
    go_at_call 143
    refine (need_no _).mono ?_
    rintro e' w' ⟨rfl, rfl⟩
    exact ⟨rfl, (by repeat (with_reducible first | exact Chg.refl _ _ | refine chg_m ?_ _ | refine chg_g ?_ _ | refine chg_alloc ?_ _ | refine chg_drew ?_ | refine chg_drewN ?_ _ | refine chg_set ?_ _ _ _)), .inr ⟨HNO.out, rfl⟩⟩
  have heq : ∀ W, (Op.equalIn 10000 78 (.agg #[iv 0, iv 0, iv 0, iv round, iv tag, iv of, iv dur, u32v ha, u32v hb, u32v hc, u32v hd, u32v ua, u32v ub, u32v uc, u32v ud]) (.agg #[iv 0, iv 0, iv 0, iv round, iv 0, iv 0, iv 0, u32v ha, u32v hb, u32v hc, u32v hd, u32v ua, u32v ub, u32v uc, u32v ud])).run Tryz.prog W = .ok true W := fun W => (eqEv W ⟨0, 0, 0, round, tag, of, dur, ⟨ha, hb, hc, hd⟩, ⟨ua, ub, uc, ud⟩⟩ ⟨0, 0, 0, round, 0, 0, 0, ⟨ha, hb, hc, hd⟩, ⟨ua, ub, uc, ud⟩⟩).trans (by rw [decide_eq_true hba])
  have HBA := Lib.hid hba
  clear hba
  go_enter Tryz.func139, Tryz.ntmps139
  go_wp2
  refine wp_region_head_call 10 (by kernel_rfl) (by kernel_rfl) ?_
  simp only [List.take_succ_cons, List.take_zero]
  repeat (go_big_quiet_step ((go_at_call 144; exact grows_of (hbl _))))
  refine wpQuiet_nil ?_
  intro gN o ho
  simp only [List.getElem?_cons_succ, List.getElem?_cons_zero, Option.some.injEq] at ho
  subst ho
  simp only [List.drop_succ_cons, List.drop_zero]
  go_simp
  go_at_call 143
  refine (need_yes _).mono ?_
  rintro e' w' ⟨rfl, rfl⟩
  dsimp only
  unfold RestQ
  refine wpQuiet_nil ?_
  intro gR
  go_wp2
  by_cases hq12_0 : ¬ round = opn
  case pos =>
    have HNO : Hid (¬ (OK)) := Lib.hid (by rw [HOK.out]; rintro ⟨_, h1, ⟨h2, h3, h4⟩, h5, h6⟩; first | omega | (dsimp only at *; omega) | contradiction | simp_all)
    have dq12_0 : ((round : Int) == opn) = false := by rw [beq_eq_false_iff_ne]; exact hq12_0
    clear hq12_0
    refine wp_region_head_call 12 (by kernel_rfl) (by kernel_rfl) ?_
    simp only [List.take_succ_cons, List.take_zero]
    repeat (go_big_quiet_step ((fail)))
    refine wpQuiet_nil ?_
    intro gN o ho
    simp only [List.getElem?_cons_succ, List.getElem?_cons_zero, Option.some.injEq] at ho
    subst ho
    simp only [List.drop_succ_cons, List.drop_zero]
    go_simp
    go_at_call 143
    refine (need_no _).mono ?_
    rintro e' w' ⟨rfl, rfl⟩
    exact ⟨rfl, (by repeat (with_reducible first | exact Chg.refl _ _ | refine chg_m ?_ _ | refine chg_g ?_ _ | refine chg_alloc ?_ _ | refine chg_drew ?_ | refine chg_drewN ?_ _ | refine chg_set ?_ _ _ _)), .inr ⟨HNO.out, rfl⟩⟩
  have eq12_0 : round = opn := Decidable.not_not.1 hq12_0
  have dq12_0 : ((round : Int) == opn) = true := by rw [beq_iff_eq]; exact eq12_0
  have HQ12_0 := Lib.hid eq12_0
  clear hq12_0 eq12_0
  refine wp_region_head_call 12 (by kernel_rfl) (by kernel_rfl) ?_
  simp only [List.take_succ_cons, List.take_zero]
  repeat (go_big_quiet_step ((fail)))
  refine wpQuiet_nil ?_
  intro gN o ho
  simp only [List.getElem?_cons_succ, List.getElem?_cons_zero, Option.some.injEq] at ho
  subst ho
  simp only [List.drop_succ_cons, List.drop_zero]
  go_simp
  go_at_call 143
  refine (need_yes _).mono ?_
  rintro e' w' ⟨rfl, rfl⟩
  dsimp only
  unfold RestQ
  refine wpQuiet_nil ?_
  intro gR
  go_wp2
  by_cases hq29_0 : b1 = false
  case pos =>
    have HNO : Hid (¬ (OK)) := Lib.hid (by rw [HOK.out]; rintro ⟨_, h1, ⟨h2, h3, h4⟩, h5, h6⟩; first | omega | (dsimp only at *; omega) | contradiction | simp_all)
    subst hq29_0
    refine wp_region_head_call 29 (by kernel_rfl) (by kernel_rfl) ?_
    simp only [List.take_succ_cons, List.take_zero]
    repeat (go_big_quiet_step (((first | (go_at_call 145; exact grows_of (hw _)) | (go_at_call 146; exact grows_of (hk _)) | (go_at_call 147; exact grows_of (hh _))))))
    refine wpQuiet_nil ?_
    intro gN o ho
    simp only [List.getElem?_cons_succ, List.getElem?_cons_zero, Option.some.injEq] at ho
    subst ho
    simp only [List.drop_succ_cons, List.drop_zero]
    go_simp
    go_at_call 143
    refine (need_no _).mono ?_
    rintro e' w' ⟨rfl, rfl⟩
    exact ⟨rfl, (by repeat (with_reducible first | exact Chg.refl _ _ | refine chg_m ?_ _ | refine chg_g ?_ _ | refine chg_alloc ?_ _ | refine chg_drew ?_ | refine chg_drewN ?_ _ | refine chg_set ?_ _ _ _)), .inr ⟨HNO.out, rfl⟩⟩
  obtain rfl : b1 = true := by simpa using hq29_0
  by_cases hq29_1 : ¬ (c1 : Int) = (n : Int) - f
  case pos =>
    have HNO : Hid (¬ (OK)) := Lib.hid (by rw [HOK.out]; rintro ⟨_, h1, ⟨h2, h3, h4⟩, h5, h6⟩; first | omega | (dsimp only at *; omega) | contradiction | simp_all)
    have dq29_1 : (((c1 : Int) : Int) == (n : Int) - f) = false := by rw [beq_eq_false_iff_ne]; exact hq29_1
    clear hq29_1
    refine wp_region_head_call 29 (by kernel_rfl) (by kernel_rfl) ?_
    simp only [List.take_succ_cons, List.take_zero]
    repeat (go_big_quiet_step (((first | (go_at_call 145; exact grows_of (hw _)) | (go_at_call 146; exact grows_of (hk _)) | (go_at_call 147; exact grows_of (hh _))))))
    refine wpQuiet_nil ?_
    intro gN o ho
    simp only [List.getElem?_cons_succ, List.getElem?_cons_zero, Option.some.injEq] at ho
    subst ho
    simp only [List.drop_succ_cons, List.drop_zero]
    go_simp
    go_at_call 143
    refine (need_no _).mono ?_
    rintro e' w' ⟨rfl, rfl⟩
    exact ⟨rfl, (by repeat (with_reducible first | exact Chg.refl _ _ | refine chg_m ?_ _ | refine chg_g ?_ _ | refine chg_alloc ?_ _ | refine chg_drew ?_ | refine chg_drewN ?_ _ | refine chg_set ?_ _ _ _)), .inr ⟨HNO.out, rfl⟩⟩
  have eq29_1 : (c1 : Int) = (n : Int) - f := Decidable.not_not.1 hq29_1
  have dq29_1 : (((c1 : Int) : Int) == (n : Int) - f) = true := by rw [beq_iff_eq]; exact eq29_1
  have HQ29_1 := Lib.hid eq29_1
  clear hq29_1 eq29_1
  by_cases hq29_2 : b3 = false
  case pos =>
    have HNO : Hid (¬ (OK)) := Lib.hid (by rw [HOK.out]; rintro ⟨_, h1, ⟨h2, h3, h4⟩, h5, h6⟩; first | omega | (dsimp only at *; omega) | contradiction | simp_all)
    subst hq29_2
    refine wp_region_head_call 29 (by kernel_rfl) (by kernel_rfl) ?_
    simp only [List.take_succ_cons, List.take_zero]
    repeat (go_big_quiet_step (((first | (go_at_call 145; exact grows_of (hw _)) | (go_at_call 146; exact grows_of (hk _)) | (go_at_call 147; exact grows_of (hh _))))))
    refine wpQuiet_nil ?_
    intro gN o ho
    simp only [List.getElem?_cons_succ, List.getElem?_cons_zero, Option.some.injEq] at ho
    subst ho
    simp only [List.drop_succ_cons, List.drop_zero]
    go_simp
    go_at_call 143
    refine (need_no _).mono ?_
    rintro e' w' ⟨rfl, rfl⟩
    exact ⟨rfl, (by repeat (with_reducible first | exact Chg.refl _ _ | refine chg_m ?_ _ | refine chg_g ?_ _ | refine chg_alloc ?_ _ | refine chg_drew ?_ | refine chg_drewN ?_ _ | refine chg_set ?_ _ _ _)), .inr ⟨HNO.out, rfl⟩⟩
  obtain rfl : b3 = true := by simpa using hq29_2
  refine wp_region_head_call 29 (by kernel_rfl) (by kernel_rfl) ?_
  simp only [List.take_succ_cons, List.take_zero]
  repeat (go_big_quiet_step (((first | (go_at_call 145; exact grows_of (hw _)) | (go_at_call 146; exact grows_of (hk _)) | (go_at_call 147; exact grows_of (hh _))))))
  refine wpQuiet_nil ?_
  intro gN o ho
  simp only [List.getElem?_cons_succ, List.getElem?_cons_zero, Option.some.injEq] at ho
  subst ho
  simp only [List.drop_succ_cons, List.drop_zero]
  go_simp
  go_at_call 143
  refine (need_yes _).mono ?_
  rintro e' w' ⟨rfl, rfl⟩
  dsimp only
  unfold RestQ
  refine wpQuiet_nil ?_
  intro gR
  go_wp2
  by_cases hq14_0 : b2 = false
  case pos =>
    have HNO : Hid (¬ (OK)) := Lib.hid (by rw [HOK.out]; rintro ⟨_, h1, ⟨h2, h3, h4⟩, h5, h6⟩; first | omega | (dsimp only at *; omega) | contradiction | simp_all)
    subst hq14_0
    refine wp_region_head_call 14 (by kernel_rfl) (by kernel_rfl) ?_
    simp only [List.take_succ_cons, List.take_zero]
    repeat (go_big_quiet_step (((first | (go_at_call 145; exact grows_of (hw2 _)) | (go_at_call 148; exact grows_of (hs _))))))
    refine wpQuiet_nil ?_
    intro gN o ho
    simp only [List.getElem?_cons_succ, List.getElem?_cons_zero, Option.some.injEq] at ho
    subst ho
    simp only [List.drop_succ_cons, List.drop_zero]
    go_simp
    go_at_call 143
    refine (need_no _).mono ?_
    rintro e' w' ⟨rfl, rfl⟩
    exact ⟨rfl, (by repeat (with_reducible first | exact Chg.refl _ _ | refine chg_m ?_ _ | refine chg_g ?_ _ | refine chg_alloc ?_ _ | refine chg_drew ?_ | refine chg_drewN ?_ _ | refine chg_set ?_ _ _ _)), .inr ⟨HNO.out, rfl⟩⟩
  obtain rfl : b2 = true := by simpa using hq14_0
  by_cases hq14_1 : b4 = false
  case pos =>
    have HNO : Hid (¬ (OK)) := Lib.hid (by rw [HOK.out]; rintro ⟨_, h1, ⟨h2, h3, h4⟩, h5, h6⟩; first | omega | (dsimp only at *; omega) | contradiction | simp_all)
    subst hq14_1
    refine wp_region_head_call 14 (by kernel_rfl) (by kernel_rfl) ?_
    simp only [List.take_succ_cons, List.take_zero]
    repeat (go_big_quiet_step (((first | (go_at_call 145; exact grows_of (hw2 _)) | (go_at_call 148; exact grows_of (hs _))))))
    refine wpQuiet_nil ?_
    intro gN o ho
    simp only [List.getElem?_cons_succ, List.getElem?_cons_zero, Option.some.injEq] at ho
    subst ho
    simp only [List.drop_succ_cons, List.drop_zero]
    go_simp
    go_at_call 143
    refine (need_no _).mono ?_
    rintro e' w' ⟨rfl, rfl⟩
    exact ⟨rfl, (by repeat (with_reducible first | exact Chg.refl _ _ | refine chg_m ?_ _ | refine chg_g ?_ _ | refine chg_alloc ?_ _ | refine chg_drew ?_ | refine chg_drewN ?_ _ | refine chg_set ?_ _ _ _)), .inr ⟨HNO.out, rfl⟩⟩
  obtain rfl : b4 = true := by simpa using hq14_1
  refine wp_region_head_call 14 (by kernel_rfl) (by kernel_rfl) ?_
  simp only [List.take_succ_cons, List.take_zero]
  repeat (go_big_quiet_step (((first | (go_at_call 145; exact grows_of (hw2 _)) | (go_at_call 148; exact grows_of (hs _))))))
  refine wpQuiet_nil ?_
  intro gN o ho
  simp only [List.getElem?_cons_succ, List.getElem?_cons_zero, Option.some.injEq] at ho
  subst ho
  simp only [List.drop_succ_cons, List.drop_zero]
  go_simp
  go_at_call 143
  refine (need_yes _).mono ?_
  rintro e' w' ⟨rfl, rfl⟩
  dsimp only
  unfold RestQ
  refine wpQuiet_nil ?_
  intro gR
  go_wp2
  go_wp2
  go_end0
  refine ⟨(by repeat (with_reducible first | exact Chg.refl _ _ | refine chg_m ?_ _ | refine chg_g ?_ _ | refine chg_alloc ?_ _ | refine chg_drew ?_ | refine chg_drewN ?_ _ | refine chg_set ?_ _ _ _)), .inl ⟨HOK.out.2 ⟨HBA.out, HQ12_0.out, ⟨(by simp), HQ29_1.out, (by simp)⟩, (by simp), (by simp)⟩, rfl, ?_⟩⟩
  refine AuIs.setshut' (s := ⟨nodes, row, shut, last⟩) HE.out (HA.out.grow ?_)
  exact (by repeat (with_reducible first | exact Chg.refl _ _ | refine chg_m ?_ _ | refine chg_g ?_ _ | refine chg_alloc ?_ _ | refine chg_drew ?_ | refine chg_drewN ?_ _ | refine chg_set ?_ _ _ _))
end Go.Proofs.YteemkceceaabkaaGreat
