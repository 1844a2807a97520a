/- notice.Print, and the reference's. -/
import Derived.Test.YtgohhallpkknfaaDoorTrp
import Derived.Test.YtgohhallpkknfaaDoorTop
import Derived.Lib.AppendIntMem
namespace Go.Ear
open Go.RowKit
abbrev nt (o t k : Int) : Value := .agg #[.int .i64 o, .int .i64 t, .int .i64 k]
/-- What Print answers: the text, the error. -/
def prB (l : List Int) (o t k : Int) : ByteArray := if vld l.length o t k = true then ⟨(ntB l o t k).toArray⟩ else ⟨#[]⟩
def prE (l : List Int) (o t k : Int) : Int := if vld l.length o t k = true then 0 else 50
/-- The table of powers of ten lies where it was laid. -/
def Pow (P : Program) (w : World) : Prop := Lib.TabIs P w "internal/strconv.uint64pow10" .u64 Lib.pow10Tab
theorem Pow.grow {P : Program} {w w' : World} (h : Pow P w) (hc : Chg Noth w w') : Pow P w' := Lib.tabBelow_of_tabIs h w' hc.below
end Go.Ear
namespace Go.Proofs.YtgohhallpkknfaaDoor
open Go.RowKit Go.Ear Go.Proofs.YtgohhallpkknfaaDoorW.PrintWords Go.Proofs.YtgohhallpkknfaaDoor.PNoticePrints
set_option maxHeartbeats 4000000
set_option maxRecDepth 100000
set_option linter.unusedSimpArgs false
set_option linter.unusedVariables false
theorem RosterIs.shape {w : World} {v : Value} {l : List Int} (h : RosterIs w v l) : ∃ (t : ByteArray) (A : Option Addr) (c : Nat) (m : Option Nat), v = .agg #[.string t, .slice A l.length c, .map m] := by
  obtain ⟨t, A, c, m, h, _, _, h4⟩ := h
  rcases h4 with ⟨_, rfl⟩ | ⟨b, rfl, _⟩ <;> exact ⟨t, A, c, _, h⟩
theorem size_any (t : ByteArray) (A : Option Addr) (n c : Nat) (m : Value) (w : World) : Calls Tryd.prog 19 #[.agg #[.string t, .slice A n c, m]] w (Gr (.int .i64 n) w) := by
  go_enter Tryd.func19, Tryd.ntmps19
  go_wp2
  go_ret
  exact gr_mk rfl (by repeat (with_reducible first | exact Chg.refl _ _ | refine chg_m ?_ _ | refine chg_g ?_ _ | refine chg_alloc ?_ _ | refine chg_drew ?_ | refine chg_drewN ?_ _ | refine chg_set ?_ _ _ _))
theorem validN_any (n o t k : Int) (w : World) : Calls Tryd.prog 18 #[.int .i64 n, nt o t k] w (Gr (.bool (vld n o t k)) w) := by
  refine (notice_Valid.calls n o t k _ w (vld_eq n o t k)).mono ?_
  rintro e w' ⟨rfl, hd⟩
  exact gr_mk rfl (Chg.of_below (by first | exact hd | exact hd.below))
theorem markN_any (k : Int) (w : World) : Calls Tryd.prog 21 #[.int .i64 k] w (Gr (.string ⟨(mkB k).toArray⟩) w) := by
  refine (notice_mark.calls k _ w (mark_eq k)).mono ?_
  rintro e w' ⟨rfl, hd⟩
  exact gr_mk rfl (Chg.of_below (by first | exact hd | exact hd.below))
theorem aliveN_any (w : World) : Calls Tryd.prog 10 #[] w (Gr (.bool true) w) := by
  refine (earshotlaw5_alive.calls _ w alive_eq).mono ?_
  rintro e w' ⟨rfl, hd⟩
  exact gr_mk rfl (Chg.of_below (by first | exact hd | exact hd.below))
theorem grow_chg (w : World) (os : Array Obj) : Chg Noth w (Sort.grow w os) :=
  ⟨rfl, rfl, rfl, by simp [Sort.grow], fun k hk _ => by simp [Sort.grow, Array.getElem?_append, hk]⟩
theorem itoa_any (t : Int) (w : World) (h0 : 0 ≤ t) (h1 : t ≤ 1048576) (hp : Pow Tryd.prog w) : Calls Tryd.prog 22 #[.int .i64 t] w (Gr (.string ⟨(Lib.decDigits t.toNat).toArray⟩) w) := by
  refine (Tryd.strconv_Itoa t (by omega) (by omega) w hp).mono ?_
  rintro e w' ⟨rfl, k, os, rfl⟩
  refine gr_mk (by unfold Lib.itoa; rw [if_neg (by omega)]) ?_
  exact (chg_drewN (Chg.refl Noth w) k).trans (grow_chg _ _) (fun _ _ e => e)
theorem signP_any (t : ByteArray) (A : Option Addr) (c : Nat) (m : Value) (l : List Int) (o : Int) (w : World) (h : SL w (.slice A l.length c) l.length 1 (l.map i32v)) (h0 : 0 ≤ o) (h1 : o < l.length) :
    Calls Tryd.prog 20 #[.agg #[.string t, .slice A l.length c, m], .int .i64 o] w (Gr (.tuple #[.int .i32 (l.getD o.toNat 0), .int .i64 0]) w) := by
  obtain ⟨o, rfl⟩ := Int.eq_ofNat_of_zero_le h0
  have hlt : o < l.length := by omega
  obtain ⟨_, A', c', e, _, hnc, hat⟩ := h
  simp only [Value.slice.injEq, true_and] at e
  obtain ⟨rfl, rfl⟩ := e
  obtain ⟨b, off, rfl, hb, hcell⟩ := hat (by omega)
  have hc : w.cell? ⟨b, off + o, none⟩ = some (.int .i32 (l.getD o 0)) := hcell o _ (by simp [List.getD_eq_getElem?_getD, hlt])
  have jb : Old b w := ⟨hb⟩
  have x1 : decide ((o : Int) < 0) = false := decide_eq_false (by omega)
  have x2 : decide ((l.length : Int) ≤ (o : Int)) = false := decide_eq_false (by omega)
  rw [Int.toNat_natCast]
  generalize l.getD o 0 = r at *
  generalize l.length = n at *
  clear hcell hat
  go_enter Tryd.func20, Tryd.ntmps20
  go_wp2
  go_ret2
  exact gr_mk rfl (by repeat (with_reducible first | exact Chg.refl _ _ | refine chg_m ?_ _ | refine chg_g ?_ _ | refine chg_alloc ?_ _ | refine chg_drew ?_ | refine chg_drewN ?_ _ | refine chg_set ?_ _ _ _))
theorem enc_len (r : Int) : (Lib.encodeRune r).length ≤ 4 := by
  unfold Lib.encodeRune
  rw [List.length_map]
  exact (Lib.encodeRuneZ_length r).2
theorem mkB_len (k : Int) : (mkB k).length = 1 := by unfold mkB; split <;> rfl
theorem dec_lt (d : Nat) : ∀ u, u < 10 ^ (d + 1) → (Lib.decDigits u).length ≤ d + 1 := by
  induction d with
  | zero =>
    intro u h
    unfold Lib.decDigits
    rw [dif_pos (by simpa using h)]
    simp
  | succ d ih =>
    intro u h
    unfold Lib.decDigits
    split
    · simp
    · have := ih (u / 10) (Nat.div_lt_of_lt_mul (by rw [Nat.pow_succ, Nat.mul_comm] at h; exact h))
      simp
      omega
theorem dec_few (u : Nat) (h : u ≤ 1048576) : (Lib.decDigits u).length ≤ 20 :=
  Nat.le_trans (dec_lt 6 u (Nat.lt_of_le_of_lt h (by decide))) (by decide)
theorem nprint_any (v : Value) (l : List Int) (o t k : Int) (w : World) (hR : RosterIs w v l) (hp : Pow Tryd.prog w) :
    Calls Tryd.prog 8 #[v, nt o t k] w (Gr (.tuple #[.string (prB l o t k), .int .i64 (prE l o t k)]) w) := by
  obtain ⟨s, A, c, m, rfl, hS, hlen, _⟩ := hR
  have hva := validN_any l.length o t k
  have hsz := size_any s A l.length c m
  by_cases hv : vld l.length o t k = true
  · rw [hv] at hva
    have hB : prB l o t k = ⟨(ntB l o t k).toArray⟩ := by unfold prB; rw [if_pos hv]
    have hE : prE l o t k = 0 := by unfold prE; rw [if_pos hv]
    have hv' := of_decide_eq_true hv
    have hsg := fun W h => signP_any s A c m l o W h (by omega) (by omega)
    have hmk := markN_any k
    have hit := fun W h => itoa_any t W (by omega) (by omega) h
    rw [hB, hE]
    have HN : Hid (ntB l o t k = Lib.encodeRune (l.getD o.toNat 0) ++ mkB k ++ Lib.decDigits t.toNat) := Lib.hid rfl
    have he : ∀ (W : World), (convert 21 9 (.int .i32 (l.getD o.toNat 0))).run Tryd.prog W = .ok (.string ⟨(Lib.encodeRune (l.getD o.toNat 0)).toArray⟩) W := fun W => by
      rw [← enc_eq]
      simp [convert, Conv.intToString, run_underlying Tryd.underlying9, run_underlying Tryd.underlying21]
    have z1 := enc_len (l.getD o.toNat 0)
    have z2 := mkB_len k
    have z3 := dec_few t.toNat (by omega)
    have HS := Lib.hid hS
    have HP := Lib.hid hp
    generalize l.getD o.toNat 0 = r at *
    generalize ntB l o t k = N at *
    generalize hM : mkB k = M at *
    generalize hD : Lib.decDigits t.toNat = D at *
    generalize hE : Lib.encodeRune r = E at *
    have y1 : ¬ 9223372036854775807 < E.length + M.length := by omega
    have y2 : ¬ 9223372036854775807 < E.length + M.length + D.length := by omega
    generalize l.length = n at *
    have HX := Lib.hid (And.intro hM hD)
    clear hS hp hB hE hv hM hD hv'
    go_enter Tryd.func8, Tryd.ntmps8
    go_wp2_with fail
    refine wp_region_grows (by kernel_rfl) (by kernel_rfl) ?_
    repeat (go_big_quiet_step ((first | (go_at_call 19; exact grows_of (hsz _)) | (go_at_call 18; exact grows_of (hva _)))))
    refine wpQuiet_nil ?_
    rintro _ ⟨gg, rfl⟩
    go_wp2_with fail
    refine (hsg _ (HS.out.grow (by repeat (with_reducible first | exact Chg.refl _ _ | refine chg_m ?_ _ | refine chg_g ?_ _ | refine chg_alloc ?_ _ | refine chg_drew ?_ | refine chg_drewN ?_ _ | refine chg_set ?_ _ _ _)))).mono ?_
    rintro e W3 ⟨rfl, g2, e3⟩
    have c3 : Chg Noth w W3 := by rw [e3]; exact (by repeat (with_reducible first | exact Chg.refl _ _ | refine chg_m ?_ _ | refine chg_g ?_ _ | refine chg_alloc ?_ _ | refine chg_drew ?_ | refine chg_drewN ?_ _ | refine chg_set ?_ _ _ _))
    have hq : ∀ b, b < 5 → W3.heap[w.heap.size + b]? = W3.heap[w.heap.size + b]? := fun _ _ => rfl
    have hit3 : ∀ g : Grows W3, Calls Tryd.prog 22 #[.int .i64 t] g.w (Gr (.string ⟨D.toArray⟩) g.w) := fun g => hit _ (HP.out.grow (c3.trans g.h (fun _ _ e => e)))
    clear hit hsg
    subst e3
    go_wp2_with fail
    refine wp_region_grows (by kernel_rfl) (by kernel_rfl) ?_
    repeat (go_big_quiet_step ((first | (go_at_call 21; exact grows_of (hmk _)) | (go_at_call 22; exact grows_of (hit3 _)))))
    refine wpQuiet_nil ?_
    rintro _ ⟨g4, rfl⟩
    go_wp2
    go_ret2
    have hN : (⟨N.toArray⟩ : ByteArray) = ⟨E.toArray⟩ ++ ⟨M.toArray⟩ ++ ⟨D.toArray⟩ := by
      rw [HN.out]
      apply ByteArray.ext
      simp
    exact gr_mk (by rw [hN]; rfl) (by repeat (with_reducible first | exact Chg.refl _ _ | refine chg_m ?_ _ | refine chg_g ?_ _ | refine chg_alloc ?_ _ | refine chg_drew ?_ | refine chg_drewN ?_ _ | refine chg_set ?_ _ _ _))
  · have hv : vld l.length o t k = false := by simpa using hv
    rw [hv] at hva
    have hB : prB l o t k = ⟨#[]⟩ := by unfold prB; rw [if_neg (by simp [hv])]
    have hE : prE l o t k = 50 := by unfold prE; rw [if_neg (by simp [hv])]
    rw [hB, hE]
    generalize l.length = n at *
    clear hS hB hE hv
    go_enter Tryd.func8, Tryd.ntmps8
    go_wp2_with fail
    refine wp_region_grows (by kernel_rfl) (by kernel_rfl) ?_
    repeat (go_big_quiet_step ((first | (go_at_call 19; exact grows_of (hsz _)) | (go_at_call 18; exact grows_of (hva _)))))
    refine wpQuiet_nil ?_
    rintro _ ⟨gg, rfl⟩
    go_wp2
    go_ret2
    exact gr_mk rfl (by repeat (with_reducible first | exact Chg.refl _ _ | refine chg_m ?_ _ | refine chg_g ?_ _ | refine chg_alloc ?_ _ | refine chg_drew ?_ | refine chg_drewN ?_ _ | refine chg_set ?_ _ _ _))
/-- The reference's roster in memory. -/
def RosRIs (w : World) (v : Value) (l : List Int) : Prop := ∃ A c, v = .agg #[.slice A l.length c] ∧ Kd.C (Kd.int .i64) w A l.length l ∧ l.length ≤ c
theorem RosRIs.grow {w w' : World} {v : Value} {l : List Int} (h : RosRIs w v l) (hc : Chg Noth w w') : RosRIs w' v l := by
  obtain ⟨A, c, h1, h2, h3⟩ := h
  exact ⟨A, c, h1, Kd.C_below h2 hc.below, h3⟩
/-- What the reference's Read answers. -/
def RosRTo (s : ByteArray) (w : World) : Ending → World → Prop := fun e w' =>
  ∃ v, e = .returned (.tuple #[v, .int .i64 (rosS s).2.1, .int .i64 (rosS s).2.2]) ∧ RosRIs w' v (rosS s).1 ∧ Chg Noth w w'
theorem rosR_any (s : ByteArray) (w : World) : Calls Tryd.prog 7 #[.string s] w (RosRTo s w) := by
  have h := readR_eq s 200000 (Nat.le_refl _)
  generalize hr : rosS s = r at h
  obtain ⟨r1, r2, r3⟩ := r
  refine (earshotref4_Read.calls 200000 s r1 r2 r3 w h).mono ?_
  rintro e w' ⟨v, rfl, hR, hb⟩
  unfold RosRTo
  rw [hr]
  obtain ⟨A, c, rfl, h1, h2⟩ := Kd.R_reads hR
  exact ⟨_, rfl, ⟨A, c, rfl, h2, h1⟩, Chg.of_below hb⟩
theorem text_any (A : Option Addr) (c : Nat) (l : List Int) (o t k : Int) (w : World) (hC : Kd.C (Kd.int .i64) w A l.length l) (hc : l.length ≤ c) (hl : ∀ r ∈ l, cls r = 4) (hv : vld l.length o t k = true) :
    Calls Tryd.prog 24 #[.agg #[.slice A l.length c], nt o t k] w (Gr (.string ⟨(ntB l o t k).toArray⟩) w) := by
  have hv' := of_decide_eq_true hv
  obtain ⟨o, rfl⟩ := Int.eq_ofNat_of_zero_le hv'.2.2.1
  have hsg : ∀ W, Kd.C (Kd.int .i64) W A l.length l → Calls Tryd.prog 38 #[.agg #[.slice A l.length c], .int .i64 o] W (Gr (.string ⟨(Lib.encodeRune (l.getD o 0)).toArray⟩) W) := fun W hW => by
    refine (earshotref4_Sign.calls A c l o _ W hW hc (sign_eq l o (by omega) hl)).mono ?_
    rintro e w' ⟨rfl, hb⟩
    exact gr_mk rfl (Chg.of_below (by first | exact hb | exact hb.below))
  have hdg : ∀ W, Calls Tryd.prog 39 #[.int .i64 t] W (Gr (.string ⟨(Lib.decDigits t.toNat).toArray⟩) W) := fun W => by
    obtain ⟨t, rfl⟩ := Int.eq_ofNat_of_zero_le hv'.2.2.2.2.1
    refine (earshotref2_Digits.calls 100 t _ W (digits_eq t (by omega))).mono ?_
    rintro e w' ⟨rfl, hb⟩
    exact gr_mk rfl (Chg.of_below (by first | exact hb | exact hb.below))
  have HN : Hid (ntB l o t k = Lib.encodeRune (l.getD o 0) ++ mkB k ++ Lib.decDigits t.toNat) := Lib.hid (by unfold ntB; simp)
  have z1 := enc_len (l.getD o 0)
  have z3 := dec_few t.toNat (by omega)
  have hsg3 : ∀ (W : World), Chg Noth w W → ∀ g : Grows W, Calls Tryd.prog 38 #[.agg #[.slice A l.length c], .int .i64 o] g.w (Gr (.string ⟨(Lib.encodeRune (l.getD o 0)).toArray⟩) g.w) := fun W hW g => hsg _ (Kd.C_below hC (hW.trans g.h (fun _ _ e => e)).below)
  clear hsg
  have HSG := Lib.hid hsg3
  clear hsg3
  generalize ntB l o t k = N at *
  generalize hD : Lib.decDigits t.toNat = D at *
  generalize hE : Lib.encodeRune (l.getD o 0) = E at *
  have HX := Lib.hid (And.intro hD hE)
  have HV := Lib.hid (And.intro hC (And.intro hv' hv))
  clear hD hE hC hv' hv
  generalize l.length = n at *
  have y1 : ¬ 9223372036854775807 < E.length + 1 := by omega
  have y2 : ¬ 9223372036854775807 < E.length + 1 + D.length := by omega
  by_cases h2 : k = 2
  · subst h2
    have hM : mkB 2 = [63] := rfl
    rw [hM] at HN
    go_enter Tryd.func24, Tryd.ntmps24
    go_wp2_with fail
    have hsg := HSG.out ((w.alloc (.cells #[.slice A n c] 33)).alloc (.cells #[.int .i64 o, .int .i64 t, .int .i64 2] 23)) (by repeat (with_reducible first | exact Chg.refl _ _ | refine chg_m ?_ _ | refine chg_g ?_ _ | refine chg_alloc ?_ _ | refine chg_drew ?_ | refine chg_drewN ?_ _ | refine chg_set ?_ _ _ _))
    refine wp_region_grows (by kernel_rfl) (by kernel_rfl) ?_
    repeat (go_big_quiet_step ((first | (go_at_call 38; exact grows_of (hsg _)) | (go_at_call 39; exact grows_of (hdg _)))))
    refine wpQuiet_nil ?_
    rintro _ ⟨g4, rfl⟩
    go_wp2
    go_ret
    have hN : (⟨N.toArray⟩ : ByteArray) = ⟨E.toArray⟩ ++ ⟨#[63]⟩ ++ ⟨D.toArray⟩ := by
      rw [HN.out]
      apply ByteArray.ext
      simp
    exact gr_mk (by rw [hN]; rfl) (by repeat (with_reducible first | exact Chg.refl _ _ | refine chg_m ?_ _ | refine chg_g ?_ _ | refine chg_alloc ?_ _ | refine chg_drew ?_ | refine chg_drewN ?_ _ | refine chg_set ?_ _ _ _))
  · have hM : mkB k = [33] := by unfold mkB; rw [if_neg h2]
    rw [hM] at HN
    have y0 : ((k : Int) == 2) = false := by simpa using h2
    clear hM h2
    go_enter Tryd.func24, Tryd.ntmps24
    go_wp2_with fail
    have hsg := HSG.out ((w.alloc (.cells #[.slice A n c] 33)).alloc (.cells #[.int .i64 o, .int .i64 t, .int .i64 k] 23)) (by repeat (with_reducible first | exact Chg.refl _ _ | refine chg_m ?_ _ | refine chg_g ?_ _ | refine chg_alloc ?_ _ | refine chg_drew ?_ | refine chg_drewN ?_ _ | refine chg_set ?_ _ _ _))
    refine wp_region_grows (by kernel_rfl) (by kernel_rfl) ?_
    repeat (go_big_quiet_step ((first | (go_at_call 38; exact grows_of (hsg _)) | (go_at_call 39; exact grows_of (hdg _)))))
    refine wpQuiet_nil ?_
    rintro _ ⟨g4, rfl⟩
    go_wp2
    go_ret
    have hN : (⟨N.toArray⟩ : ByteArray) = ⟨E.toArray⟩ ++ ⟨#[33]⟩ ++ ⟨D.toArray⟩ := by
      rw [HN.out]
      apply ByteArray.ext
      simp
    exact gr_mk (by rw [hN]; rfl) (by repeat (with_reducible first | exact Chg.refl _ _ | refine chg_m ?_ _ | refine chg_g ?_ _ | refine chg_alloc ?_ _ | refine chg_drew ?_ | refine chg_drewN ?_ _ | refine chg_set ?_ _ _ _))
theorem rprint_any (v : Value) (l : List Int) (o t k : Int) (w : World) (hR : RosRIs w v l) (hl : ∀ r ∈ l, cls r = 4) :
    Calls Tryd.prog 9 #[v, nt o t k] w (Gr (.tuple #[.string (prB l o t k), .int .i64 (prE l o t k)]) w) := by
  obtain ⟨A, c, rfl, hC, hc⟩ := hR
  have hva : ∀ W, Calls Tryd.prog 23 #[.int .i64 l.length, nt o t k] W (Gr (.bool (vld l.length o t k)) W) := fun W => by
    refine (earshotref5_Valid.calls l.length o t k _ W (vldR_eq l.length o t k)).mono ?_
    rintro e w' ⟨rfl, hb⟩
    exact gr_mk rfl (Chg.of_below (by first | exact hb | exact hb.below))
  by_cases hv : vld l.length o t k = true
  · rw [hv] at hva
    have hB : prB l o t k = ⟨(ntB l o t k).toArray⟩ := by unfold prB; rw [if_pos hv]
    have hE : prE l o t k = 0 := by unfold prE; rw [if_pos hv]
    have htx := fun W hW => text_any A c l o t k W (Kd.C_below hC (Chg.below hW)) hc hl hv
    rw [hB, hE]
    generalize ntB l o t k = N at *
    generalize l.length = n at *
    have HC := Lib.hid hC
    clear hB hE hv hC hl
    go_enter Tryd.func9, Tryd.ntmps9
    go_wp2_with (first
      | (go_at_call 23; refine (hva _).mono ?_; rintro e w' ⟨rfl, g, rfl⟩)
      | (go_at_call 24; refine (htx _ (by repeat (with_reducible first | exact Chg.refl _ _ | refine chg_m ?_ _ | refine chg_g ?_ _ | refine chg_alloc ?_ _ | refine chg_drew ?_ | refine chg_drewN ?_ _ | refine chg_set ?_ _ _ _))).mono ?_; rintro e w' ⟨rfl, g, rfl⟩))
    go_ret2
    exact gr_mk rfl (by repeat (with_reducible first | exact Chg.refl _ _ | refine chg_m ?_ _ | refine chg_g ?_ _ | refine chg_alloc ?_ _ | refine chg_drew ?_ | refine chg_drewN ?_ _ | refine chg_set ?_ _ _ _))
  · have hv : vld l.length o t k = false := by simpa using hv
    rw [hv] at hva
    have hB : prB l o t k = ⟨#[]⟩ := by unfold prB; rw [if_neg (by simp [hv])]
    have hE : prE l o t k = 50 := by unfold prE; rw [if_neg (by simp [hv])]
    rw [hB, hE]
    generalize l.length = n at *
    clear hC hB hE hv
    go_enter Tryd.func9, Tryd.ntmps9
    go_wp2_with (go_at_call 23; refine (hva _).mono ?_; rintro e w' ⟨rfl, g, rfl⟩)
    go_ret2
    exact gr_mk rfl (by repeat (with_reducible first | exact Chg.refl _ _ | refine chg_m ?_ _ | refine chg_g ?_ _ | refine chg_alloc ?_ _ | refine chg_drew ?_ | refine chg_drewN ?_ _ | refine chg_set ?_ _ _ _))
end Go.Proofs.YtgohhallpkknfaaDoor
