/- The auditor's event at kind 1. -/
import Derived.Test.YteemkceceaabkaaGreatAe0
import Derived.Test.YteemkceceaabkaaGreatAe4
set_option linter.unusedSimpArgs false
set_option linter.unusedVariables false
namespace Go.Proofs.YteemkceceaabkaaGreat
open Go.RowKit Go.Ear Go.ChangeMaps
set_option maxHeartbeats 8000000
set_option maxRecDepth 100000
set_option linter.unusedSimpArgs false
set_option linter.unusedVariables false
attribute [local go_sem ↓] Go.wp_at_zero Go.wp_at_succ

theorem event_k1 (w : World) (p q n f i : Nat) (nodes : List Nd) (shut : Ev) (last : Int) (life round tag of dur : Int) (ha hb hc hd ua ub uc ud : Nat) (up : Bool) (xlife asked xtag opn : Int)
    (hA : AuIs w p q n f ⟨nodes, false, shut, last⟩) (hx : nodes[i]? = some ⟨up, xlife, asked, xtag, opn⟩) (he : Ev.ok (⟨1, (i : Int), life, round, tag, of, dur, ⟨ha, hb, hc, hd⟩, ⟨ua, ub, uc, ud⟩⟩ : Ev)) (hfit : Ev.fit n (⟨1, (i : Int), life, round, tag, of, dur, ⟨ha, hb, hc, hd⟩, ⟨ua, ub, uc, ud⟩⟩ : Ev)) :
    Calls Tryz.prog 134 #[.pointer (some ⟨p, 0, none⟩), .agg #[iv 1, iv (i : Int), iv life, iv round, iv tag, iv of, iv dur, u32v ha, u32v hb, u32v hc, u32v hd, u32v ua, u32v ub, u32v uc, u32v ud]] w (Went w p q n f (Au.step n f ⟨nodes, false, shut, last⟩ (⟨1, (i : Int), life, round, tag, of, dur, ⟨ha, hb, hc, hd⟩, ⟨ua, ub, uc, ud⟩⟩ : Ev))) := by
  have hil := (List.getElem?_eq_some_iff.1 hx).1
  have hlen := hA.len
  simp only at hlen
  have hin : (i : Int) < (n : Int) := by omega
  have hi0 : (0 : Int) ≤ (i : Int) := by omega
  have hinn : i < n := by omega
  have hl1 := hfit.2.2.2.2.1
  have hl2 := hfit.2.2.2.2.2
  simp only at hl1 hl2
  have h100 := hA.n100
  have hfn := hA.fn
  have jp : Old p w := ⟨hA.ltp⟩
  have jq : Old q w := ⟨hA.ltq⟩
  have mp := may_p w p q
  have mq := may_q w p q
  have hne := hA.ne
  obtain ⟨cp0, fp0, kp0⟩ := hA.cellp 0 (iv n) rfl
  obtain ⟨cp2, fp2, kp2⟩ := hA.cellp 2 (.slice (some ⟨q, 0, none⟩) n n) rfl
  obtain ⟨cp3, fp3, kp3⟩ := hA.cellp 3 (.bool false) rfl
  obtain ⟨cp5, fp5, kp5⟩ := hA.cellp 5 (iv shut.node) rfl
  obtain ⟨cp19, fp19, kp19⟩ := hA.cellp 19 (iv last) rfl
  obtain ⟨cq0, fq0, kq0⟩ := hA.cellq i 0 _ (.bool up) hx (by omega) rfl
  obtain ⟨cq1, fq1, kq1⟩ := hA.cellq i 1 _ (iv xlife) hx (by omega) rfl
  obtain ⟨cq2, fq2, kq2⟩ := hA.cellq i 2 _ (iv asked) hx (by omega) rfl
  obtain ⟨cq3, fq3, kq3⟩ := hA.cellq i 3 _ (iv xtag) hx (by omega) rfl
  obtain ⟨cq4, fq4, kq4⟩ := hA.cellq i 4 _ (iv opn) hx (by omega) rfl
  obtain ⟨cq5, fq5, kq5⟩ := hA.cellq i 5 _ (iv 0) hx (by omega) rfl
  simp only [Nat.add_zero] at cq0 fq0 kq0
  have hlk := kinds_some (w.alloc (.cells #[iv 1, iv (i : Int), iv life, iv round, iv tag, iv of, iv dur, u32v ha, u32v hb, u32v hc, u32v hd, u32v ua, u32v ub, u32v uc, u32v ud] 78)) p (w.heap.size + 1) (by simp) 1 (mv F1 p) rfl
  obtain ⟨u1, u2, u3, u4, u5, u6⟩ := ups (w.alloc (.cells #[iv 1, iv (i : Int), iv life, iv round, iv tag, iv of, iv dur, u32v ha, u32v hb, u32v hc, u32v hd, u32v ua, u32v ub, u32v uc, u32v ud] 78)) p (w.heap.size + 1) (by simp)
  simp only [mv, ent, F1, F2, F3, F4, F5, F6] at u1 u2 u3 u4 u5 u6
  have hmf : ∀ (fn : Fn) (first cap : Array Value) (w : World), (Instr.makeFunc fn first cap).run Tryz.prog w = .ok (.func fn first cap) w := fun _ _ _ _ => rfl
  have hmm := @run_makeMap Tryz.prog
  simp only [kindsObj, mv, ent, F1, F2, F3, F4, F5, F6] at u6 hlk
  obtain ⟨hyes, hno⟩ := step_of (n := n) (f := f) (s := (⟨nodes, false, shut, last⟩ : Au)) (e := (⟨1, (i : Int), life, round, tag, of, dur, ⟨ha, hb, hc, hd⟩, ⟨ua, ub, uc, ud⟩⟩ : Ev)) (x := (⟨up, xlife, asked, xtag, opn⟩ : Nd)) hfit rfl hx ⟨(fun h => by cases h), .inr (by show (1 : Int) ≠ 4; decide)⟩ (.inl rfl) (ok_begin n f (⟨nodes, false, shut, last⟩ : Au) (⟨up, xlife, asked, xtag, opn⟩ : Nd) (⟨1, (i : Int), life, round, tag, of, dur, ⟨ha, hb, hc, hd⟩, ⟨ua, ub, uc, ud⟩⟩ : Ev) rfl)
  have hcall : ∀ W, AuIs W p q n f (⟨nodes, false, shut, last⟩ : Au) → Calls Tryz.prog F1 #[.pointer (some ⟨p, 0, none⟩), .agg #[iv 1, iv (i : Int), iv life, iv round, iv tag, iv of, iv dur, u32v ha, u32v hb, u32v hc, u32v hd, u32v ua, u32v ub, u32v uc, u32v ud]] W (Looked W p q n f (BeginOk (⟨up, xlife, asked, xtag, opn⟩ : Nd) (⟨1, (i : Int), life, round, tag, of, dur, ⟨ha, hb, hc, hd⟩, ⟨ua, ub, uc, ud⟩⟩ : Ev)) (⟨nodes.set i ⟨true, life, asked, tag, round⟩, false, shut, last⟩ : Au)) := fun W h => begin_any W p q n f (⟨nodes, false, shut, last⟩ : Au) (⟨1, (i : Int), life, round, tag, of, dur, ⟨ha, hb, hc, hd⟩, ⟨ua, ub, uc, ud⟩⟩ : Ev) (⟨up, xlife, asked, xtag, opn⟩ : Nd) i h he rfl hx
  have hokk : AuIs w p q n f (⟨nodes, false, shut, last⟩ : Au) := hA
  have HY := Lib.hid hyes
  have HN := Lib.hid hno
  clear hyes hno hokk
  replace HY : Hid (BeginOk (⟨up, xlife, asked, xtag, opn⟩ : Nd) (⟨1, (i : Int), life, round, tag, of, dur, ⟨ha, hb, hc, hd⟩, ⟨ua, ub, uc, ud⟩⟩ : Ev) → _) := HY
  replace HN : Hid (¬ BeginOk (⟨up, xlife, asked, xtag, opn⟩ : Nd) (⟨1, (i : Int), life, round, tag, of, dur, ⟨ha, hb, hc, hd⟩, ⟨ua, ub, uc, ud⟩⟩ : Ev) → _) := HN
  generalize hOK : (BeginOk (⟨up, xlife, asked, xtag, opn⟩ : Nd) (⟨1, (i : Int), life, round, tag, of, dur, ⟨ha, hb, hc, hd⟩, ⟨ua, ub, uc, ud⟩⟩ : Ev)) = OK at HY HN hcall
  clear hOK
  generalize Au.step n f (⟨nodes, false, shut, last⟩ : Au) (⟨1, (i : Int), life, round, tag, of, dur, ⟨ha, hb, hc, hd⟩, ⟨ua, ub, uc, ud⟩⟩ : Ev) = r at *
  have hset : nodes.set i ⟨up, xlife, asked, xtag, opn⟩ = nodes := by
    obtain ⟨hl, hv⟩ := List.getElem?_eq_some_iff.1 hx
    rw [← hv, List.set_getElem_self]
  have HS := Lib.hid hset
  have hso := hA.shut
  have HSO := Lib.hid hso
  have HE := Lib.hid he
  have HA := Lib.hid hA
  clear hso hset
  clear hA hx he hfit hlen hil
  simp only [F1, F2, F3, F4, F5, F6] at hcall
  go_enter Tryz.func134, Tryz.ntmps134
  go_wp2
  refine wp_region_head_call 25 (by kernel_rfl) (by kernel_rfl) ?_
  simp only [List.take_succ_cons, List.take_zero]
  repeat (go_big_quiet_step ((fail)))
  refine wpQuiet_nil ?_
  intro gN o ho
  simp only [List.getElem?_cons_succ, List.getElem?_cons_zero, Option.some.injEq] at ho
  subst ho
  simp only [List.drop_succ_cons, List.drop_zero]
  go_simp
  go_at_call 143
  refine (need_yes _).mono ?_
  rintro e' w' ⟨rfl, rfl⟩
  dsimp only
  unfold RestQ
  refine wpQuiet_nil ?_
  intro gR
  go_wp2_with fail
  refine (need_yes _).mono ?_
  rintro e' w' ⟨rfl, rfl⟩
  go_wp2
  go_region
  go_wp2_with fail
  refine (need_yes _).mono ?_
  rintro e' w' ⟨rfl, rfl⟩
  go_wp2_with fail
  refine (hcall _ (HA.out.grow (by repeat (with_reducible first | exact Chg.refl _ _ | refine chg_m ?_ _ | refine chg_g ?_ _ | refine chg_alloc ?_ _ | refine chg_drew ?_ | refine chg_drewN ?_ _ | refine chg_set ?_ _ _ _)))).mono ?_
  rintro en X ⟨hC, ⟨hok, rfl, hA2⟩ | ⟨hok, rfl⟩⟩
  case inr =>
    exact ⟨rfl, Chg.trans (G := pq p q) (by repeat (with_reducible first | exact Chg.refl _ _ | refine chg_m ?_ _ | refine chg_g ?_ _ | refine chg_alloc ?_ _ | refine chg_drew ?_ | refine chg_drewN ?_ _ | refine chg_set ?_ _ _ _)) hC (fun _ _ h => h), .inl ⟨HN.out hok, rfl⟩⟩
  have hCw : Chg (pq p q) w X := Chg.trans (G := pq p q) (by repeat (with_reducible first | exact Chg.refl _ _ | refine chg_m ?_ _ | refine chg_g ?_ _ | refine chg_alloc ?_ _ | refine chg_drew ?_ | refine chg_drewN ?_ _ | refine chg_set ?_ _ _ _)) hC (fun _ _ h => h)
  obtain ⟨m, rfl⟩ := muts_ex hC
  have hpw := jp.lt
  have hqw := jq.lt
  have io : Out w.heap.size (pq p q) := ⟨fun h => by rcases h with h | h <;> omega⟩
  have jp2 : Old p m.w := ⟨hA2.ltp⟩
  obtain ⟨ep3, ef3, ek3⟩ := hA2.cellp 3 (.bool false) rfl
  obtain ⟨ep19, ef19, ek19⟩ := hA2.cellp 19 (iv last) rfl
  have HC := Lib.hid hCw
  have HA2 := Lib.hid hA2
  have HOK := Lib.hid hok
  clear hC hCw hA2 hok hcall
  go_wp2
  go_end0
  refine ⟨(by repeat (with_reducible first | exact HC.out | exact Chg.refl _ _ | refine chg_m ?_ _ | refine chg_g ?_ _ | refine chg_alloc ?_ _ | refine chg_drew ?_ | refine chg_drewN ?_ _ | refine chg_set ?_ _ _ _)), .inr ⟨_, HY.out HOK.out, rfl, ?_⟩⟩
  have hfin := AuIs.setp (s := (⟨nodes.set i ⟨true, life, asked, tag, round⟩, false, shut, last⟩ : Au)) (s' := (⟨nodes.set i ⟨true, life, asked, tag, round⟩, false, shut, -1⟩ : Au)) 19 (iv (-1)) (by simp [aucells]) rfl HSO.out (AuIs.setp (s := (⟨nodes.set i ⟨true, life, asked, tag, round⟩, false, shut, last⟩ : Au)) (s' := (⟨nodes.set i ⟨true, life, asked, tag, round⟩, false, shut, last⟩ : Au)) 3 (.bool false) (by simp [aucells]) rfl HSO.out HA2.out)
  simpa [Nd.next, HS.out] using hfin
end Go.Proofs.YteemkceceaabkaaGreat
/- The auditor's event at kind 2. -/
namespace Go.Proofs.YteemkceceaabkaaGreat
open Go.RowKit Go.Ear Go.ChangeMaps
set_option maxHeartbeats 8000000
set_option maxRecDepth 100000
set_option linter.unusedSimpArgs false
set_option linter.unusedVariables false
attribute [local go_sem ↓] Go.wp_at_zero Go.wp_at_succ

theorem event_k2 (w : World) (p q n f i : Nat) (nodes : List Nd) (shut : Ev) (last : Int) (life round tag of dur : Int) (ha hb hc hd ua ub uc ud : Nat) (xlife asked xtag opn : Int)
    (hA : AuIs w p q n f ⟨nodes, false, shut, last⟩) (hx : nodes[i]? = some ⟨true, life, asked, xtag, opn⟩) (he : Ev.ok (⟨2, (i : Int), life, round, tag, of, dur, ⟨ha, hb, hc, hd⟩, ⟨ua, ub, uc, ud⟩⟩ : Ev)) (hfit : Ev.fit n (⟨2, (i : Int), life, round, tag, of, dur, ⟨ha, hb, hc, hd⟩, ⟨ua, ub, uc, ud⟩⟩ : Ev)) :
    Calls Tryz.prog 134 #[.pointer (some ⟨p, 0, none⟩), .agg #[iv 2, iv (i : Int), iv life, iv round, iv tag, iv of, iv dur, u32v ha, u32v hb, u32v hc, u32v hd, u32v ua, u32v ub, u32v uc, u32v ud]] w (Went w p q n f (Au.step n f ⟨nodes, false, shut, last⟩ (⟨2, (i : Int), life, round, tag, of, dur, ⟨ha, hb, hc, hd⟩, ⟨ua, ub, uc, ud⟩⟩ : Ev))) := by
  have hil := (List.getElem?_eq_some_iff.1 hx).1
  have hlen := hA.len
  simp only at hlen
  have hin : (i : Int) < (n : Int) := by omega
  have hi0 : (0 : Int) ≤ (i : Int) := by omega
  have hinn : i < n := by omega
  have hl1 := hfit.2.2.2.2.1
  have hl2 := hfit.2.2.2.2.2
  simp only at hl1 hl2
  have h100 := hA.n100
  have hfn := hA.fn
  have jp : Old p w := ⟨hA.ltp⟩
  have jq : Old q w := ⟨hA.ltq⟩
  have mp := may_p w p q
  have mq := may_q w p q
  have hne := hA.ne
  obtain ⟨cp0, fp0, kp0⟩ := hA.cellp 0 (iv n) rfl
  obtain ⟨cp2, fp2, kp2⟩ := hA.cellp 2 (.slice (some ⟨q, 0, none⟩) n n) rfl
  obtain ⟨cp3, fp3, kp3⟩ := hA.cellp 3 (.bool false) rfl
  obtain ⟨cp5, fp5, kp5⟩ := hA.cellp 5 (iv shut.node) rfl
  obtain ⟨cp19, fp19, kp19⟩ := hA.cellp 19 (iv last) rfl
  obtain ⟨cq0, fq0, kq0⟩ := hA.cellq i 0 _ (.bool true) hx (by omega) rfl
  obtain ⟨cq1, fq1, kq1⟩ := hA.cellq i 1 _ (iv life) hx (by omega) rfl
  obtain ⟨cq2, fq2, kq2⟩ := hA.cellq i 2 _ (iv asked) hx (by omega) rfl
  obtain ⟨cq3, fq3, kq3⟩ := hA.cellq i 3 _ (iv xtag) hx (by omega) rfl
  obtain ⟨cq4, fq4, kq4⟩ := hA.cellq i 4 _ (iv opn) hx (by omega) rfl
  obtain ⟨cq5, fq5, kq5⟩ := hA.cellq i 5 _ (iv 0) hx (by omega) rfl
  simp only [Nat.add_zero] at cq0 fq0 kq0
  have hlk := kinds_some (w.alloc (.cells #[iv 2, iv (i : Int), iv life, iv round, iv tag, iv of, iv dur, u32v ha, u32v hb, u32v hc, u32v hd, u32v ua, u32v ub, u32v uc, u32v ud] 78)) p (w.heap.size + 1) (by simp) 2 (mv F2 p) rfl
  obtain ⟨u1, u2, u3, u4, u5, u6⟩ := ups (w.alloc (.cells #[iv 2, iv (i : Int), iv life, iv round, iv tag, iv of, iv dur, u32v ha, u32v hb, u32v hc, u32v hd, u32v ua, u32v ub, u32v uc, u32v ud] 78)) p (w.heap.size + 1) (by simp)
  simp only [mv, ent, F1, F2, F3, F4, F5, F6] at u1 u2 u3 u4 u5 u6
  have hmf : ∀ (fn : Fn) (first cap : Array Value) (w : World), (Instr.makeFunc fn first cap).run Tryz.prog w = .ok (.func fn first cap) w := fun _ _ _ _ => rfl
  have hmm := @run_makeMap Tryz.prog
  simp only [kindsObj, mv, ent, F1, F2, F3, F4, F5, F6] at u6 hlk
  obtain ⟨hyes, hno⟩ := step_of (n := n) (f := f) (s := (⟨nodes, false, shut, last⟩ : Au)) (e := (⟨2, (i : Int), life, round, tag, of, dur, ⟨ha, hb, hc, hd⟩, ⟨ua, ub, uc, ud⟩⟩ : Ev)) (x := (⟨true, life, asked, xtag, opn⟩ : Nd)) hfit rfl hx ⟨(fun h => by cases h), .inr (by show (2 : Int) ≠ 4; decide)⟩ (.inr ⟨rfl, rfl⟩) (ok_ask n f (⟨nodes, false, shut, last⟩ : Au) (⟨true, life, asked, xtag, opn⟩ : Nd) (⟨2, (i : Int), life, round, tag, of, dur, ⟨ha, hb, hc, hd⟩, ⟨ua, ub, uc, ud⟩⟩ : Ev) rfl)
  have hcall : ∀ W, AuIs W p q n f (⟨nodes, false, shut, last⟩ : Au) → Calls Tryz.prog F2 #[.pointer (some ⟨p, 0, none⟩), .agg #[iv 2, iv (i : Int), iv life, iv round, iv tag, iv of, iv dur, u32v ha, u32v hb, u32v hc, u32v hd, u32v ua, u32v ub, u32v uc, u32v ud]] W (Looked W p q n f (AskOk false shut.round (⟨true, life, asked, xtag, opn⟩ : Nd) (⟨2, (i : Int), life, round, tag, of, dur, ⟨ha, hb, hc, hd⟩, ⟨ua, ub, uc, ud⟩⟩ : Ev)) (⟨nodes.set i ⟨true, life, max asked round, xtag, round⟩, false, shut, last⟩ : Au)) := fun W h => ask_false W p q n f (⟨nodes, false, shut, last⟩ : Au) (⟨2, (i : Int), life, round, tag, of, dur, ⟨ha, hb, hc, hd⟩, ⟨ua, ub, uc, ud⟩⟩ : Ev) (⟨true, life, asked, xtag, opn⟩ : Nd) i h he rfl hx rfl
  have hokk : AuIs w p q n f (⟨nodes, false, shut, last⟩ : Au) := hA
  have HY := Lib.hid hyes
  have HN := Lib.hid hno
  clear hyes hno hokk
  replace HY : Hid (AskOk false shut.round (⟨true, life, asked, xtag, opn⟩ : Nd) (⟨2, (i : Int), life, round, tag, of, dur, ⟨ha, hb, hc, hd⟩, ⟨ua, ub, uc, ud⟩⟩ : Ev) → _) := HY
  replace HN : Hid (¬ AskOk false shut.round (⟨true, life, asked, xtag, opn⟩ : Nd) (⟨2, (i : Int), life, round, tag, of, dur, ⟨ha, hb, hc, hd⟩, ⟨ua, ub, uc, ud⟩⟩ : Ev) → _) := HN
  generalize hOK : (AskOk false shut.round (⟨true, life, asked, xtag, opn⟩ : Nd) (⟨2, (i : Int), life, round, tag, of, dur, ⟨ha, hb, hc, hd⟩, ⟨ua, ub, uc, ud⟩⟩ : Ev)) = OK at HY HN hcall
  clear hOK
  generalize Au.step n f (⟨nodes, false, shut, last⟩ : Au) (⟨2, (i : Int), life, round, tag, of, dur, ⟨ha, hb, hc, hd⟩, ⟨ua, ub, uc, ud⟩⟩ : Ev) = r at *
  have y4 : ((life : Int) == life) = true := by simp
  have hset : nodes.set i ⟨true, life, asked, xtag, opn⟩ = nodes := by
    obtain ⟨hl, hv⟩ := List.getElem?_eq_some_iff.1 hx
    rw [← hv, List.set_getElem_self]
  have HS := Lib.hid hset
  have hso := hA.shut
  have HSO := Lib.hid hso
  have HE := Lib.hid he
  have HA := Lib.hid hA
  clear hso hset
  clear hA hx he hfit hlen hil
  simp only [F1, F2, F3, F4, F5, F6] at hcall
  go_enter Tryz.func134, Tryz.ntmps134
  go_wp2
  refine wp_region_head_call 25 (by kernel_rfl) (by kernel_rfl) ?_
  simp only [List.take_succ_cons, List.take_zero]
  repeat (go_big_quiet_step ((fail)))
  refine wpQuiet_nil ?_
  intro gN o ho
  simp only [List.getElem?_cons_succ, List.getElem?_cons_zero, Option.some.injEq] at ho
  subst ho
  simp only [List.drop_succ_cons, List.drop_zero]
  go_simp
  go_at_call 143
  refine (need_yes _).mono ?_
  rintro e' w' ⟨rfl, rfl⟩
  dsimp only
  unfold RestQ
  refine wpQuiet_nil ?_
  intro gR
  go_wp2_with fail
  refine (need_yes _).mono ?_
  rintro e' w' ⟨rfl, rfl⟩
  go_wp2
  go_region
  go_wp2_with fail
  refine (need_yes _).mono ?_
  rintro e' w' ⟨rfl, rfl⟩
  go_wp2_with fail
  refine (hcall _ (HA.out.grow (by repeat (with_reducible first | exact Chg.refl _ _ | refine chg_m ?_ _ | refine chg_g ?_ _ | refine chg_alloc ?_ _ | refine chg_drew ?_ | refine chg_drewN ?_ _ | refine chg_set ?_ _ _ _)))).mono ?_
  rintro en X ⟨hC, ⟨hok, rfl, hA2⟩ | ⟨hok, rfl⟩⟩
  case inr =>
    exact ⟨rfl, Chg.trans (G := pq p q) (by repeat (with_reducible first | exact Chg.refl _ _ | refine chg_m ?_ _ | refine chg_g ?_ _ | refine chg_alloc ?_ _ | refine chg_drew ?_ | refine chg_drewN ?_ _ | refine chg_set ?_ _ _ _)) hC (fun _ _ h => h), .inl ⟨HN.out hok, rfl⟩⟩
  have hCw : Chg (pq p q) w X := Chg.trans (G := pq p q) (by repeat (with_reducible first | exact Chg.refl _ _ | refine chg_m ?_ _ | refine chg_g ?_ _ | refine chg_alloc ?_ _ | refine chg_drew ?_ | refine chg_drewN ?_ _ | refine chg_set ?_ _ _ _)) hC (fun _ _ h => h)
  obtain ⟨m, rfl⟩ := muts_ex hC
  have hpw := jp.lt
  have hqw := jq.lt
  have io : Out w.heap.size (pq p q) := ⟨fun h => by rcases h with h | h <;> omega⟩
  have jp2 : Old p m.w := ⟨hA2.ltp⟩
  obtain ⟨ep3, ef3, ek3⟩ := hA2.cellp 3 (.bool false) rfl
  obtain ⟨ep19, ef19, ek19⟩ := hA2.cellp 19 (iv last) rfl
  have HC := Lib.hid hCw
  have HA2 := Lib.hid hA2
  have HOK := Lib.hid hok
  clear hC hCw hA2 hok hcall
  go_wp2
  go_end0
  refine ⟨(by repeat (with_reducible first | exact HC.out | exact Chg.refl _ _ | refine chg_m ?_ _ | refine chg_g ?_ _ | refine chg_alloc ?_ _ | refine chg_drew ?_ | refine chg_drewN ?_ _ | refine chg_set ?_ _ _ _)), .inr ⟨_, HY.out HOK.out, rfl, ?_⟩⟩
  have hfin := AuIs.setp (s := (⟨nodes.set i ⟨true, life, max asked round, xtag, round⟩, false, shut, last⟩ : Au)) (s' := (⟨nodes.set i ⟨true, life, max asked round, xtag, round⟩, false, shut, -1⟩ : Au)) 19 (iv (-1)) (by simp [aucells]) rfl HSO.out (AuIs.setp (s := (⟨nodes.set i ⟨true, life, max asked round, xtag, round⟩, false, shut, last⟩ : Au)) (s' := (⟨nodes.set i ⟨true, life, max asked round, xtag, round⟩, false, shut, last⟩ : Au)) 3 (.bool false) (by simp [aucells]) rfl HSO.out HA2.out)
  simpa [Nd.next, HS.out] using hfin
end Go.Proofs.YteemkceceaabkaaGreat
/- The auditor's event at kind 2. -/
namespace Go.Proofs.YteemkceceaabkaaGreat
open Go.RowKit Go.Ear Go.ChangeMaps
set_option maxHeartbeats 8000000
set_option maxRecDepth 100000
set_option linter.unusedSimpArgs false
set_option linter.unusedVariables false
attribute [local go_sem ↓] Go.wp_at_zero Go.wp_at_succ

theorem event_k2r (w : World) (p q n f i : Nat) (nodes : List Nd) (shut : Ev) (last : Int) (life round tag of dur : Int) (ha hb hc hd ua ub uc ud : Nat) (xlife asked xtag opn : Int)
    (hA : AuIs w p q n f ⟨nodes, true, shut, last⟩) (hx : nodes[i]? = some ⟨true, life, asked, xtag, opn⟩) (he : Ev.ok (⟨2, (i : Int), life, round, tag, of, dur, ⟨ha, hb, hc, hd⟩, ⟨ua, ub, uc, ud⟩⟩ : Ev)) (hfit : Ev.fit n (⟨2, (i : Int), life, round, tag, of, dur, ⟨ha, hb, hc, hd⟩, ⟨ua, ub, uc, ud⟩⟩ : Ev)) (hq : (i : Int) = shut.node) :
    Calls Tryz.prog 134 #[.pointer (some ⟨p, 0, none⟩), .agg #[iv 2, iv (i : Int), iv life, iv round, iv tag, iv of, iv dur, u32v ha, u32v hb, u32v hc, u32v hd, u32v ua, u32v ub, u32v uc, u32v ud]] w (Went w p q n f (Au.step n f ⟨nodes, true, shut, last⟩ (⟨2, (i : Int), life, round, tag, of, dur, ⟨ha, hb, hc, hd⟩, ⟨ua, ub, uc, ud⟩⟩ : Ev))) := by
  have hil := (List.getElem?_eq_some_iff.1 hx).1
  have hlen := hA.len
  simp only at hlen
  have hin : (i : Int) < (n : Int) := by omega
  have hi0 : (0 : Int) ≤ (i : Int) := by omega
  have hinn : i < n := by omega
  have hl1 := hfit.2.2.2.2.1
  have hl2 := hfit.2.2.2.2.2
  simp only at hl1 hl2
  have h100 := hA.n100
  have hfn := hA.fn
  have jp : Old p w := ⟨hA.ltp⟩
  have jq : Old q w := ⟨hA.ltq⟩
  have mp := may_p w p q
  have mq := may_q w p q
  have hne := hA.ne
  obtain ⟨cp0, fp0, kp0⟩ := hA.cellp 0 (iv n) rfl
  obtain ⟨cp2, fp2, kp2⟩ := hA.cellp 2 (.slice (some ⟨q, 0, none⟩) n n) rfl
  obtain ⟨cp3, fp3, kp3⟩ := hA.cellp 3 (.bool true) rfl
  obtain ⟨cp5, fp5, kp5⟩ := hA.cellp 5 (iv shut.node) rfl
  obtain ⟨cp19, fp19, kp19⟩ := hA.cellp 19 (iv last) rfl
  obtain ⟨cq0, fq0, kq0⟩ := hA.cellq i 0 _ (.bool true) hx (by omega) rfl
  obtain ⟨cq1, fq1, kq1⟩ := hA.cellq i 1 _ (iv life) hx (by omega) rfl
  obtain ⟨cq2, fq2, kq2⟩ := hA.cellq i 2 _ (iv asked) hx (by omega) rfl
  obtain ⟨cq3, fq3, kq3⟩ := hA.cellq i 3 _ (iv xtag) hx (by omega) rfl
  obtain ⟨cq4, fq4, kq4⟩ := hA.cellq i 4 _ (iv opn) hx (by omega) rfl
  obtain ⟨cq5, fq5, kq5⟩ := hA.cellq i 5 _ (iv 0) hx (by omega) rfl
  simp only [Nat.add_zero] at cq0 fq0 kq0
  have hlk := kinds_some (w.alloc (.cells #[iv 2, iv (i : Int), iv life, iv round, iv tag, iv of, iv dur, u32v ha, u32v hb, u32v hc, u32v hd, u32v ua, u32v ub, u32v uc, u32v ud] 78)) p (w.heap.size + 1) (by simp) 2 (mv F2 p) rfl
  obtain ⟨u1, u2, u3, u4, u5, u6⟩ := ups (w.alloc (.cells #[iv 2, iv (i : Int), iv life, iv round, iv tag, iv of, iv dur, u32v ha, u32v hb, u32v hc, u32v hd, u32v ua, u32v ub, u32v uc, u32v ud] 78)) p (w.heap.size + 1) (by simp)
  simp only [mv, ent, F1, F2, F3, F4, F5, F6] at u1 u2 u3 u4 u5 u6
  have hmf : ∀ (fn : Fn) (first cap : Array Value) (w : World), (Instr.makeFunc fn first cap).run Tryz.prog w = .ok (.func fn first cap) w := fun _ _ _ _ => rfl
  have hmm := @run_makeMap Tryz.prog
  simp only [kindsObj, mv, ent, F1, F2, F3, F4, F5, F6] at u6 hlk
  obtain ⟨hyes, hno⟩ := step_of (n := n) (f := f) (s := (⟨nodes, true, shut, last⟩ : Au)) (e := (⟨2, (i : Int), life, round, tag, of, dur, ⟨ha, hb, hc, hd⟩, ⟨ua, ub, uc, ud⟩⟩ : Ev)) (x := (⟨true, life, asked, xtag, opn⟩ : Nd)) hfit rfl hx ⟨fun _ => ⟨.inr rfl, hq⟩, .inl rfl⟩ (.inr ⟨rfl, rfl⟩) (ok_ask n f (⟨nodes, true, shut, last⟩ : Au) (⟨true, life, asked, xtag, opn⟩ : Nd) (⟨2, (i : Int), life, round, tag, of, dur, ⟨ha, hb, hc, hd⟩, ⟨ua, ub, uc, ud⟩⟩ : Ev) rfl)
  have hcall : ∀ W, AuIs W p q n f (⟨nodes, true, shut, last⟩ : Au) → Calls Tryz.prog F2 #[.pointer (some ⟨p, 0, none⟩), .agg #[iv 2, iv (i : Int), iv life, iv round, iv tag, iv of, iv dur, u32v ha, u32v hb, u32v hc, u32v hd, u32v ua, u32v ub, u32v uc, u32v ud]] W (Looked W p q n f (AskOk true shut.round (⟨true, life, asked, xtag, opn⟩ : Nd) (⟨2, (i : Int), life, round, tag, of, dur, ⟨ha, hb, hc, hd⟩, ⟨ua, ub, uc, ud⟩⟩ : Ev)) (⟨nodes.set i ⟨true, life, max asked round, xtag, round⟩, true, shut, last⟩ : Au)) := fun W h => ask_true W p q n f (⟨nodes, true, shut, last⟩ : Au) (⟨2, (i : Int), life, round, tag, of, dur, ⟨ha, hb, hc, hd⟩, ⟨ua, ub, uc, ud⟩⟩ : Ev) (⟨true, life, asked, xtag, opn⟩ : Nd) i h he rfl hx rfl
  have hokk : AuIs w p q n f (⟨nodes, true, shut, last⟩ : Au) := hA
  have HY := Lib.hid hyes
  have HN := Lib.hid hno
  clear hyes hno hokk
  replace HY : Hid (AskOk true shut.round (⟨true, life, asked, xtag, opn⟩ : Nd) (⟨2, (i : Int), life, round, tag, of, dur, ⟨ha, hb, hc, hd⟩, ⟨ua, ub, uc, ud⟩⟩ : Ev) → _) := HY
  replace HN : Hid (¬ AskOk true shut.round (⟨true, life, asked, xtag, opn⟩ : Nd) (⟨2, (i : Int), life, round, tag, of, dur, ⟨ha, hb, hc, hd⟩, ⟨ua, ub, uc, ud⟩⟩ : Ev) → _) := HN
  generalize hOK : (AskOk true shut.round (⟨true, life, asked, xtag, opn⟩ : Nd) (⟨2, (i : Int), life, round, tag, of, dur, ⟨ha, hb, hc, hd⟩, ⟨ua, ub, uc, ud⟩⟩ : Ev)) = OK at HY HN hcall
  clear hOK
  generalize Au.step n f (⟨nodes, true, shut, last⟩ : Au) (⟨2, (i : Int), life, round, tag, of, dur, ⟨ha, hb, hc, hd⟩, ⟨ua, ub, uc, ud⟩⟩ : Ev) = r at *
  have y1 : ((i : Int) == shut.node) = true := by rw [beq_iff_eq]; exact hq
  clear hq
  have y4 : ((life : Int) == life) = true := by simp
  have hset : nodes.set i ⟨true, life, asked, xtag, opn⟩ = nodes := by
    obtain ⟨hl, hv⟩ := List.getElem?_eq_some_iff.1 hx
    rw [← hv, List.set_getElem_self]
  have HS := Lib.hid hset
  have hso := hA.shut
  have HSO := Lib.hid hso
  have HE := Lib.hid he
  have HA := Lib.hid hA
  clear hso hset
  clear hA hx he hfit hlen hil
  simp only [F1, F2, F3, F4, F5, F6] at hcall
  go_enter Tryz.func134, Tryz.ntmps134
  go_wp2
  refine wp_region_head_call 25 (by kernel_rfl) (by kernel_rfl) ?_
  simp only [List.take_succ_cons, List.take_zero]
  repeat (go_big_quiet_step ((fail)))
  refine wpQuiet_nil ?_
  intro gN o ho
  simp only [List.getElem?_cons_succ, List.getElem?_cons_zero, Option.some.injEq] at ho
  subst ho
  simp only [List.drop_succ_cons, List.drop_zero]
  go_simp
  go_at_call 143
  refine (need_yes _).mono ?_
  rintro e' w' ⟨rfl, rfl⟩
  dsimp only
  unfold RestQ
  refine wpQuiet_nil ?_
  intro gR
  go_wp2
  refine wp_region_head_call 18 (by kernel_rfl) (by kernel_rfl) ?_
  simp only [List.take_succ_cons, List.take_zero]
  repeat (go_big_quiet_step ((fail)))
  refine wpQuiet_nil ?_
  intro gN o ho
  simp only [List.getElem?_cons_succ, List.getElem?_cons_zero, Option.some.injEq] at ho
  subst ho
  simp only [List.drop_succ_cons, List.drop_zero]
  go_simp
  go_at_call 143
  refine (need_yes _).mono ?_
  rintro e' w' ⟨rfl, rfl⟩
  dsimp only
  unfold RestQ
  refine wpQuiet_nil ?_
  intro gR
  go_wp2_with fail
  refine (need_yes _).mono ?_
  rintro e' w' ⟨rfl, rfl⟩
  go_wp2
  go_region
  go_wp2_with fail
  refine (need_yes _).mono ?_
  rintro e' w' ⟨rfl, rfl⟩
  go_wp2_with fail
  refine (hcall _ (HA.out.grow (by repeat (with_reducible first | exact Chg.refl _ _ | refine chg_m ?_ _ | refine chg_g ?_ _ | refine chg_alloc ?_ _ | refine chg_drew ?_ | refine chg_drewN ?_ _ | refine chg_set ?_ _ _ _)))).mono ?_
  rintro en X ⟨hC, ⟨hok, rfl, hA2⟩ | ⟨hok, rfl⟩⟩
  case inr =>
    exact ⟨rfl, Chg.trans (G := pq p q) (by repeat (with_reducible first | exact Chg.refl _ _ | refine chg_m ?_ _ | refine chg_g ?_ _ | refine chg_alloc ?_ _ | refine chg_drew ?_ | refine chg_drewN ?_ _ | refine chg_set ?_ _ _ _)) hC (fun _ _ h => h), .inl ⟨HN.out hok, rfl⟩⟩
  have hCw : Chg (pq p q) w X := Chg.trans (G := pq p q) (by repeat (with_reducible first | exact Chg.refl _ _ | refine chg_m ?_ _ | refine chg_g ?_ _ | refine chg_alloc ?_ _ | refine chg_drew ?_ | refine chg_drewN ?_ _ | refine chg_set ?_ _ _ _)) hC (fun _ _ h => h)
  obtain ⟨m, rfl⟩ := muts_ex hC
  have hpw := jp.lt
  have hqw := jq.lt
  have io : Out w.heap.size (pq p q) := ⟨fun h => by rcases h with h | h <;> omega⟩
  have jp2 : Old p m.w := ⟨hA2.ltp⟩
  obtain ⟨ep3, ef3, ek3⟩ := hA2.cellp 3 (.bool true) rfl
  obtain ⟨ep19, ef19, ek19⟩ := hA2.cellp 19 (iv last) rfl
  have HC := Lib.hid hCw
  have HA2 := Lib.hid hA2
  have HOK := Lib.hid hok
  clear hC hCw hA2 hok hcall
  go_wp2
  go_end0
  refine ⟨(by repeat (with_reducible first | exact HC.out | exact Chg.refl _ _ | refine chg_m ?_ _ | refine chg_g ?_ _ | refine chg_alloc ?_ _ | refine chg_drew ?_ | refine chg_drewN ?_ _ | refine chg_set ?_ _ _ _)), .inr ⟨_, HY.out HOK.out, rfl, ?_⟩⟩
  have hfin := AuIs.setp (s := (⟨nodes.set i ⟨true, life, max asked round, xtag, round⟩, false, shut, last⟩ : Au)) (s' := (⟨nodes.set i ⟨true, life, max asked round, xtag, round⟩, false, shut, -1⟩ : Au)) 19 (iv (-1)) (by simp [aucells]) rfl HSO.out (AuIs.setp (s := (⟨nodes.set i ⟨true, life, max asked round, xtag, round⟩, true, shut, last⟩ : Au)) (s' := (⟨nodes.set i ⟨true, life, max asked round, xtag, round⟩, false, shut, last⟩ : Au)) 3 (.bool false) (by simp [aucells]) rfl HSO.out HA2.out)
  simpa [Nd.next, HS.out] using hfin
end Go.Proofs.YteemkceceaabkaaGreat
/- The auditor's event at kind 3. -/
namespace Go.Proofs.YteemkceceaabkaaGreat
open Go.RowKit Go.Ear Go.ChangeMaps
set_option maxHeartbeats 8000000
set_option maxRecDepth 100000
set_option linter.unusedSimpArgs false
set_option linter.unusedVariables false
attribute [local go_sem ↓] Go.wp_at_zero Go.wp_at_succ

theorem event_k3 (w : World) (p q n f i : Nat) (nodes : List Nd) (shut : Ev) (last : Int) (life round tag of dur : Int) (ha hb hc hd ua ub uc ud : Nat) (xlife asked xtag opn : Int)
    (hA : AuIs w p q n f ⟨nodes, false, shut, last⟩) (hx : nodes[i]? = some ⟨true, life, asked, xtag, opn⟩) (he : Ev.ok (⟨3, (i : Int), life, round, tag, of, dur, ⟨ha, hb, hc, hd⟩, ⟨ua, ub, uc, ud⟩⟩ : Ev)) (hfit : Ev.fit n (⟨3, (i : Int), life, round, tag, of, dur, ⟨ha, hb, hc, hd⟩, ⟨ua, ub, uc, ud⟩⟩ : Ev)) :
    Calls Tryz.prog 134 #[.pointer (some ⟨p, 0, none⟩), .agg #[iv 3, iv (i : Int), iv life, iv round, iv tag, iv of, iv dur, u32v ha, u32v hb, u32v hc, u32v hd, u32v ua, u32v ub, u32v uc, u32v ud]] w (Went w p q n f (Au.step n f ⟨nodes, false, shut, last⟩ (⟨3, (i : Int), life, round, tag, of, dur, ⟨ha, hb, hc, hd⟩, ⟨ua, ub, uc, ud⟩⟩ : Ev))) := by
  have hil := (List.getElem?_eq_some_iff.1 hx).1
  have hlen := hA.len
  simp only at hlen
  have hin : (i : Int) < (n : Int) := by omega
  have hi0 : (0 : Int) ≤ (i : Int) := by omega
  have hinn : i < n := by omega
  have hl1 := hfit.2.2.2.2.1
  have hl2 := hfit.2.2.2.2.2
  simp only at hl1 hl2
  have h100 := hA.n100
  have hfn := hA.fn
  have jp : Old p w := ⟨hA.ltp⟩
  have jq : Old q w := ⟨hA.ltq⟩
  have mp := may_p w p q
  have mq := may_q w p q
  have hne := hA.ne
  obtain ⟨cp0, fp0, kp0⟩ := hA.cellp 0 (iv n) rfl
  obtain ⟨cp2, fp2, kp2⟩ := hA.cellp 2 (.slice (some ⟨q, 0, none⟩) n n) rfl
  obtain ⟨cp3, fp3, kp3⟩ := hA.cellp 3 (.bool false) rfl
  obtain ⟨cp5, fp5, kp5⟩ := hA.cellp 5 (iv shut.node) rfl
  obtain ⟨cp19, fp19, kp19⟩ := hA.cellp 19 (iv last) rfl
  obtain ⟨cq0, fq0, kq0⟩ := hA.cellq i 0 _ (.bool true) hx (by omega) rfl
  obtain ⟨cq1, fq1, kq1⟩ := hA.cellq i 1 _ (iv life) hx (by omega) rfl
  obtain ⟨cq2, fq2, kq2⟩ := hA.cellq i 2 _ (iv asked) hx (by omega) rfl
  obtain ⟨cq3, fq3, kq3⟩ := hA.cellq i 3 _ (iv xtag) hx (by omega) rfl
  obtain ⟨cq4, fq4, kq4⟩ := hA.cellq i 4 _ (iv opn) hx (by omega) rfl
  obtain ⟨cq5, fq5, kq5⟩ := hA.cellq i 5 _ (iv 0) hx (by omega) rfl
  simp only [Nat.add_zero] at cq0 fq0 kq0
  have hlk := kinds_some (w.alloc (.cells #[iv 3, iv (i : Int), iv life, iv round, iv tag, iv of, iv dur, u32v ha, u32v hb, u32v hc, u32v hd, u32v ua, u32v ub, u32v uc, u32v ud] 78)) p (w.heap.size + 1) (by simp) 3 (mv F3 p) rfl
  obtain ⟨u1, u2, u3, u4, u5, u6⟩ := ups (w.alloc (.cells #[iv 3, iv (i : Int), iv life, iv round, iv tag, iv of, iv dur, u32v ha, u32v hb, u32v hc, u32v hd, u32v ua, u32v ub, u32v uc, u32v ud] 78)) p (w.heap.size + 1) (by simp)
  simp only [mv, ent, F1, F2, F3, F4, F5, F6] at u1 u2 u3 u4 u5 u6
  have hmf : ∀ (fn : Fn) (first cap : Array Value) (w : World), (Instr.makeFunc fn first cap).run Tryz.prog w = .ok (.func fn first cap) w := fun _ _ _ _ => rfl
  have hmm := @run_makeMap Tryz.prog
  simp only [kindsObj, mv, ent, F1, F2, F3, F4, F5, F6] at u6 hlk
  obtain ⟨hyes, hno⟩ := step_of (n := n) (f := f) (s := (⟨nodes, false, shut, last⟩ : Au)) (e := (⟨3, (i : Int), life, round, tag, of, dur, ⟨ha, hb, hc, hd⟩, ⟨ua, ub, uc, ud⟩⟩ : Ev)) (x := (⟨true, life, asked, xtag, opn⟩ : Nd)) hfit rfl hx ⟨(fun h => by cases h), .inr (by show (3 : Int) ≠ 4; decide)⟩ (.inr ⟨rfl, rfl⟩) (ok_close n f (⟨nodes, false, shut, last⟩ : Au) (⟨true, life, asked, xtag, opn⟩ : Nd) (⟨3, (i : Int), life, round, tag, of, dur, ⟨ha, hb, hc, hd⟩, ⟨ua, ub, uc, ud⟩⟩ : Ev) rfl)
  have hcall : ∀ W, AuIs W p q n f (⟨nodes, false, shut, last⟩ : Au) → Calls Tryz.prog F3 #[.pointer (some ⟨p, 0, none⟩), .agg #[iv 3, iv (i : Int), iv life, iv round, iv tag, iv of, iv dur, u32v ha, u32v hb, u32v hc, u32v hd, u32v ua, u32v ub, u32v uc, u32v ud]] W (Looked W p q n f (CloseOk n f (⟨true, life, asked, xtag, opn⟩ : Nd) (⟨3, (i : Int), life, round, tag, of, dur, ⟨ha, hb, hc, hd⟩, ⟨ua, ub, uc, ud⟩⟩ : Ev)) (⟨nodes, false, (⟨3, (i : Int), life, round, tag, of, dur, ⟨ha, hb, hc, hd⟩, ⟨ua, ub, uc, ud⟩⟩ : Ev), last⟩ : Au)) := fun W h => close_any W p q n f (⟨nodes, false, shut, last⟩ : Au) (⟨3, (i : Int), life, round, tag, of, dur, ⟨ha, hb, hc, hd⟩, ⟨ua, ub, uc, ud⟩⟩ : Ev) (⟨true, life, asked, xtag, opn⟩ : Nd) i h he rfl hx
  have hokk : AuIs w p q n f (⟨nodes, false, shut, last⟩ : Au) := hA
  have HY := Lib.hid hyes
  have HN := Lib.hid hno
  clear hyes hno hokk
  replace HY : Hid (CloseOk n f (⟨true, life, asked, xtag, opn⟩ : Nd) (⟨3, (i : Int), life, round, tag, of, dur, ⟨ha, hb, hc, hd⟩, ⟨ua, ub, uc, ud⟩⟩ : Ev) → _) := HY
  replace HN : Hid (¬ CloseOk n f (⟨true, life, asked, xtag, opn⟩ : Nd) (⟨3, (i : Int), life, round, tag, of, dur, ⟨ha, hb, hc, hd⟩, ⟨ua, ub, uc, ud⟩⟩ : Ev) → _) := HN
  generalize hOK : (CloseOk n f (⟨true, life, asked, xtag, opn⟩ : Nd) (⟨3, (i : Int), life, round, tag, of, dur, ⟨ha, hb, hc, hd⟩, ⟨ua, ub, uc, ud⟩⟩ : Ev)) = OK at HY HN hcall
  clear hOK
  generalize Au.step n f (⟨nodes, false, shut, last⟩ : Au) (⟨3, (i : Int), life, round, tag, of, dur, ⟨ha, hb, hc, hd⟩, ⟨ua, ub, uc, ud⟩⟩ : Ev) = r at *
  have y4 : ((life : Int) == life) = true := by simp
  have hset : nodes.set i ⟨true, life, asked, xtag, opn⟩ = nodes := by
    obtain ⟨hl, hv⟩ := List.getElem?_eq_some_iff.1 hx
    rw [← hv, List.set_getElem_self]
  have HS := Lib.hid hset
  have hso := hA.shut
  have HSO := Lib.hid hso
  have HE := Lib.hid he
  have HA := Lib.hid hA
  clear hso hset
  clear hA hx he hfit hlen hil
  simp only [F1, F2, F3, F4, F5, F6] at hcall
  go_enter Tryz.func134, Tryz.ntmps134
  go_wp2
  refine wp_region_head_call 25 (by kernel_rfl) (by kernel_rfl) ?_
  simp only [List.take_succ_cons, List.take_zero]
  repeat (go_big_quiet_step ((fail)))
  refine wpQuiet_nil ?_
  intro gN o ho
  simp only [List.getElem?_cons_succ, List.getElem?_cons_zero, Option.some.injEq] at ho
  subst ho
  simp only [List.drop_succ_cons, List.drop_zero]
  go_simp
  go_at_call 143
  refine (need_yes _).mono ?_
  rintro e' w' ⟨rfl, rfl⟩
  dsimp only
  unfold RestQ
  refine wpQuiet_nil ?_
  intro gR
  go_wp2_with fail
  refine (need_yes _).mono ?_
  rintro e' w' ⟨rfl, rfl⟩
  go_wp2
  go_region
  go_wp2_with fail
  refine (need_yes _).mono ?_
  rintro e' w' ⟨rfl, rfl⟩
  go_wp2_with fail
  refine (hcall _ (HA.out.grow (by repeat (with_reducible first | exact Chg.refl _ _ | refine chg_m ?_ _ | refine chg_g ?_ _ | refine chg_alloc ?_ _ | refine chg_drew ?_ | refine chg_drewN ?_ _ | refine chg_set ?_ _ _ _)))).mono ?_
  rintro en X ⟨hC, ⟨hok, rfl, hA2⟩ | ⟨hok, rfl⟩⟩
  case inr =>
    exact ⟨rfl, Chg.trans (G := pq p q) (by repeat (with_reducible first | exact Chg.refl _ _ | refine chg_m ?_ _ | refine chg_g ?_ _ | refine chg_alloc ?_ _ | refine chg_drew ?_ | refine chg_drewN ?_ _ | refine chg_set ?_ _ _ _)) hC (fun _ _ h => h), .inl ⟨HN.out hok, rfl⟩⟩
  have hCw : Chg (pq p q) w X := Chg.trans (G := pq p q) (by repeat (with_reducible first | exact Chg.refl _ _ | refine chg_m ?_ _ | refine chg_g ?_ _ | refine chg_alloc ?_ _ | refine chg_drew ?_ | refine chg_drewN ?_ _ | refine chg_set ?_ _ _ _)) hC (fun _ _ h => h)
  obtain ⟨m, rfl⟩ := muts_ex hC
  have hpw := jp.lt
  have hqw := jq.lt
  have io : Out w.heap.size (pq p q) := ⟨fun h => by rcases h with h | h <;> omega⟩
  have jp2 : Old p m.w := ⟨hA2.ltp⟩
  obtain ⟨ep3, ef3, ek3⟩ := hA2.cellp 3 (.bool false) rfl
  obtain ⟨ep19, ef19, ek19⟩ := hA2.cellp 19 (iv last) rfl
  have HC := Lib.hid hCw
  have HA2 := Lib.hid hA2
  have HOK := Lib.hid hok
  clear hC hCw hA2 hok hcall
  go_wp2
  go_end0
  refine ⟨(by repeat (with_reducible first | exact HC.out | exact Chg.refl _ _ | refine chg_m ?_ _ | refine chg_g ?_ _ | refine chg_alloc ?_ _ | refine chg_drew ?_ | refine chg_drewN ?_ _ | refine chg_set ?_ _ _ _)), .inr ⟨_, HY.out HOK.out, rfl, ?_⟩⟩
  have hfin := AuIs.setp (s := (⟨nodes, true, (⟨3, (i : Int), life, round, tag, of, dur, ⟨ha, hb, hc, hd⟩, ⟨ua, ub, uc, ud⟩⟩ : Ev), last⟩ : Au)) (s' := (⟨nodes, true, (⟨3, (i : Int), life, round, tag, of, dur, ⟨ha, hb, hc, hd⟩, ⟨ua, ub, uc, ud⟩⟩ : Ev), -1⟩ : Au)) 19 (iv (-1)) (by simp [aucells]) rfl HE.out (AuIs.setp (s := (⟨nodes, false, (⟨3, (i : Int), life, round, tag, of, dur, ⟨ha, hb, hc, hd⟩, ⟨ua, ub, uc, ud⟩⟩ : Ev), last⟩ : Au)) (s' := (⟨nodes, true, (⟨3, (i : Int), life, round, tag, of, dur, ⟨ha, hb, hc, hd⟩, ⟨ua, ub, uc, ud⟩⟩ : Ev), last⟩ : Au)) 3 (.bool true) (by simp [aucells]) rfl HE.out HA2.out)
  simpa [Nd.next, HS.out] using hfin
end Go.Proofs.YteemkceceaabkaaGreat
