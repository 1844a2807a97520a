/- Rosters, numbers as texts: what both directions need. -/
import Derived.Test.YtgohhallpkknfaaDoorTrr
import Derived.Test.YtgohhallpkknfaaDoorTnr
import Derived.Lib.AppendIntMem
namespace Go.Ear
open Go.RowKit
abbrev nt (o t k : Int) : Value := .agg #[.int .i64 o, .int .i64 t, .int .i64 k]
/-- The table of powers of ten lies where it was laid. -/
def Pow (P : Program) (w : World) : Prop := Lib.TabIs P w "internal/strconv.uint64pow10" .u64 Lib.pow10Tab
theorem Pow.grow {P : Program} {w w' : World} (h : Pow P w) (hc : Chg Noth w w') : Pow P w' := Lib.tabBelow_of_tabIs h w' hc.below
end Go.Ear
namespace Go.Proofs.YtgohhallpkknfaaDoor
open Go.RowKit Go.Ear Go.Proofs.YtgohhallpkknfaaDoorW.PrintWords Go.Proofs.YtgohhallpkknfaaDoor.PNoticeReads
set_option maxHeartbeats 4000000
set_option maxRecDepth 100000
set_option linter.unusedSimpArgs false
set_option linter.unusedVariables false
theorem RosterIs.shape {w : World} {v : Value} {l : List Int} (h : RosterIs w v l) : ∃ (t : ByteArray) (A : Option Addr) (c : Nat) (m : Option Nat), v = .agg #[.string t, .slice A l.length c, .map m] := by
  obtain ⟨t, A, c, m, h, _, _, h4⟩ := h
  rcases h4 with ⟨_, rfl⟩ | ⟨b, rfl, _⟩ <;> exact ⟨t, A, c, _, h⟩
theorem size_any (t : ByteArray) (A : Option Addr) (n c : Nat) (m : Value) (w : World) : Calls Tryd.prog 19 #[.agg #[.string t, .slice A n c, m]] w (Gr (.int .i64 n) w) := by
  go_enter Tryd.func19, Tryd.ntmps19
  go_wp2
  go_ret
  exact gr_mk rfl (by repeat (with_reducible first | exact Chg.refl _ _ | refine chg_m ?_ _ | refine chg_g ?_ _ | refine chg_alloc ?_ _ | refine chg_drew ?_ | refine chg_drewN ?_ _ | refine chg_set ?_ _ _ _))
theorem validN_any (n o t k : Int) (w : World) : Calls Tryd.prog 18 #[.int .i64 n, nt o t k] w (Gr (.bool (vld n o t k)) w) := by
  refine (notice_Valid.calls n o t k _ w (vld_eq n o t k)).mono ?_
  rintro e w' ⟨rfl, hd⟩
  exact gr_mk rfl (Chg.of_below (by first | exact hd | exact hd.below))
theorem markN_any (k : Int) (w : World) : Calls Tryd.prog 21 #[.int .i64 k] w (Gr (.string ⟨(mkB k).toArray⟩) w) := by
  refine (notice_mark.calls k _ w (mark_eq k)).mono ?_
  rintro e w' ⟨rfl, hd⟩
  exact gr_mk rfl (Chg.of_below (by first | exact hd | exact hd.below))
theorem aliveN_any (w : World) : Calls Tryd.prog 10 #[] w (Gr (.bool true) w) := by
  refine (earshotlaw5_alive.calls _ w alive_eq).mono ?_
  rintro e w' ⟨rfl, hd⟩
  exact gr_mk rfl (Chg.of_below (by first | exact hd | exact hd.below))
theorem grow_chg (w : World) (os : Array Obj) : Chg Noth w (Sort.grow w os) :=
  ⟨rfl, rfl, rfl, by simp [Sort.grow], fun k hk _ => by simp [Sort.grow, Array.getElem?_append, hk]⟩
theorem itoa_any (t : Int) (w : World) (h0 : 0 ≤ t) (h1 : t ≤ 1048576) (hp : Pow Tryd.prog w) : Calls Tryd.prog 22 #[.int .i64 t] w (Gr (.string ⟨(Lib.decDigits t.toNat).toArray⟩) w) := by
  refine (Tryd.strconv_Itoa t (by omega) (by omega) w hp).mono ?_
  rintro e w' ⟨rfl, k, os, rfl⟩
  refine gr_mk (by unfold Lib.itoa; rw [if_neg (by omega)]) ?_
  exact (chg_drewN (Chg.refl Noth w) k).trans (grow_chg _ _) (fun _ _ e => e)
/-- The reference's roster in memory. -/
def RosRIs (w : World) (v : Value) (l : List Int) : Prop := ∃ A c, v = .agg #[.slice A l.length c] ∧ Kd.C (Kd.int .i64) w A l.length l ∧ l.length ≤ c
theorem RosRIs.grow {w w' : World} {v : Value} {l : List Int} (h : RosRIs w v l) (hc : Chg Noth w w') : RosRIs w' v l := by
  obtain ⟨A, c, h1, h2, h3⟩ := h
  exact ⟨A, c, h1, Kd.C_below h2 hc.below, h3⟩
/-- What the reference's Read answers. -/
def RosRTo (s : ByteArray) (w : World) : Ending → World → Prop := fun e w' =>
  ∃ v, e = .returned (.tuple #[v, .int .i64 (rosS s).2.1, .int .i64 (rosS s).2.2]) ∧ RosRIs w' v (rosS s).1 ∧ Chg Noth w w'
theorem rosR_any (s : ByteArray) (w : World) : Calls Tryd.prog 7 #[.string s] w (RosRTo s w) := by
  have h := readR_eq s 200000 (Nat.le_refl _)
  generalize hr : rosS s = r at h
  obtain ⟨r1, r2, r3⟩ := r
  refine (earshotref4_Read.calls 200000 s r1 r2 r3 w h).mono ?_
  rintro e w' ⟨v, rfl, hR, hb⟩
  unfold RosRTo
  rw [hr]
  obtain ⟨A, c, rfl, h1, h2⟩ := Kd.R_reads hR
  exact ⟨_, rfl, ⟨A, c, rfl, h2, h1⟩, Chg.of_below hb⟩
theorem dec_lt (d : Nat) : ∀ u, u < 10 ^ (d + 1) → (Lib.decDigits u).length ≤ d + 1 := by
  induction d with
  | zero =>
    intro u h
    unfold Lib.decDigits
    rw [dif_pos (by simpa using h)]
    simp
  | succ d ih =>
    intro u h
    unfold Lib.decDigits
    split
    · simp
    · have := ih (u / 10) (Nat.div_lt_of_lt_mul (by rw [Nat.pow_succ, Nat.mul_comm] at h; exact h))
      simp
      omega
theorem dec_few (u : Nat) (h : u ≤ 1048576) : (Lib.decDigits u).length ≤ 20 :=
  Nat.le_trans (dec_lt 6 u (Nat.lt_of_le_of_lt h (by decide))) (by decide)
end Go.Proofs.YtgohhallpkknfaaDoor
