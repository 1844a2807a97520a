/- notice.Print. -/
import Derived.Test.YtgohhallpkknfaaDoorTar
namespace Go.Ear
open Go.RowKit
/-- What Print answers: the text, the error. -/
def prB (l : List Int) (o t k : Int) : ByteArray := if vld l.length o t k = true then ⟨(ntB l o t k).toArray⟩ else ⟨#[]⟩
def prE (l : List Int) (o t k : Int) : Int := if vld l.length o t k = true then 0 else 50
end Go.Ear
namespace Go.Proofs.YtgohhallpkknfaaDoor
open Go.RowKit Go.Ear Go.Proofs.YtgohhallpkknfaaDoorW.PrintWords Go.Proofs.YtgohhallpkknfaaDoor.PNoticeReads
set_option maxHeartbeats 4000000
set_option maxRecDepth 100000
set_option linter.unusedSimpArgs false
set_option linter.unusedVariables false
theorem signP_any (t : ByteArray) (A : Option Addr) (c : Nat) (m : Value) (l : List Int) (o : Int) (w : World) (h : SL w (.slice A l.length c) l.length 1 (l.map i32v)) (h0 : 0 ≤ o) (h1 : o < l.length) :
    Calls Tryd.prog 20 #[.agg #[.string t, .slice A l.length c, m], .int .i64 o] w (Gr (.tuple #[.int .i32 (l.getD o.toNat 0), .int .i64 0]) w) := by
  obtain ⟨o, rfl⟩ := Int.eq_ofNat_of_zero_le h0
  have hlt : o < l.length := by omega
  obtain ⟨_, A', c', e, _, hnc, hat⟩ := h
  simp only [Value.slice.injEq, true_and] at e
  obtain ⟨rfl, rfl⟩ := e
  obtain ⟨b, off, rfl, hb, hcell⟩ := hat (by omega)
  have hc : w.cell? ⟨b, off + o, none⟩ = some (.int .i32 (l.getD o 0)) := hcell o _ (by simp [List.getD_eq_getElem?_getD, hlt])
  have jb : Old b w := ⟨hb⟩
  have x1 : decide ((o : Int) < 0) = false := decide_eq_false (by omega)
  have x2 : decide ((l.length : Int) ≤ (o : Int)) = false := decide_eq_false (by omega)
  rw [Int.toNat_natCast]
  generalize l.getD o 0 = r at *
  generalize l.length = n at *
  clear hcell hat
  go_enter Tryd.func20, Tryd.ntmps20
  go_wp2
  go_ret2
  exact gr_mk rfl (by repeat (with_reducible first | exact Chg.refl _ _ | refine chg_m ?_ _ | refine chg_g ?_ _ | refine chg_alloc ?_ _ | refine chg_drew ?_ | refine chg_drewN ?_ _ | refine chg_set ?_ _ _ _))
theorem enc_len (r : Int) : (Lib.encodeRune r).length ≤ 4 := by
  unfold Lib.encodeRune
  rw [List.length_map]
  exact (Lib.encodeRuneZ_length r).2
theorem mkB_len (k : Int) : (mkB k).length = 1 := by unfold mkB; split <;> rfl
theorem nprint_any (v : Value) (l : List Int) (o t k : Int) (w : World) (hR : RosterIs w v l) (hp : Pow Tryd.prog w) :
    Calls Tryd.prog 8 #[v, nt o t k] w (Gr (.tuple #[.string (prB l o t k), .int .i64 (prE l o t k)]) w) := by
  obtain ⟨s, A, c, m, rfl, hS, hlen, _⟩ := hR
  have hva := validN_any l.length o t k
  have hsz := size_any s A l.length c m
  by_cases hv : vld l.length o t k = true
  · rw [hv] at hva
    have hB : prB l o t k = ⟨(ntB l o t k).toArray⟩ := by unfold prB; rw [if_pos hv]
    have hE : prE l o t k = 0 := by unfold prE; rw [if_pos hv]
    have hv' := of_decide_eq_true hv
    have hsg := fun W h => signP_any s A c m l o W h (by omega) (by omega)
    have hmk := markN_any k
    have hit := fun W h => itoa_any t W (by omega) (by omega) h
    rw [hB, hE]
    have HN : Hid (ntB l o t k = Lib.encodeRune (l.getD o.toNat 0) ++ mkB k ++ Lib.decDigits t.toNat) := Lib.hid rfl
    have he : ∀ (W : World), (convert 21 9 (.int .i32 (l.getD o.toNat 0))).run Tryd.prog W = .ok (.string ⟨(Lib.encodeRune (l.getD o.toNat 0)).toArray⟩) W := fun W => by
      rw [← enc_eq]
      simp [convert, Conv.intToString, run_underlying Tryd.underlying9, run_underlying Tryd.underlying21]
    have z1 := enc_len (l.getD o.toNat 0)
    have z2 := mkB_len k
    have z3 := dec_few t.toNat (by omega)
    have HS := Lib.hid hS
    have HP := Lib.hid hp
    generalize l.getD o.toNat 0 = r at *
    generalize ntB l o t k = N at *
    generalize hM : mkB k = M at *
    generalize hD : Lib.decDigits t.toNat = D at *
    generalize hE : Lib.encodeRune r = E at *
    have y1 : ¬ 9223372036854775807 < E.length + M.length := by omega
    have y2 : ¬ 9223372036854775807 < E.length + M.length + D.length := by omega
    generalize l.length = n at *
    have HX := Lib.hid (And.intro hM hD)
    clear hS hp hB hE hv hM hD hv'
    go_enter Tryd.func8, Tryd.ntmps8
    go_wp2_with fail
    refine wp_region_grows (by kernel_rfl) (by kernel_rfl) ?_
    repeat (go_big_quiet_step ((first | (go_at_call 19; exact grows_of (hsz _)) | (go_at_call 18; exact grows_of (hva _)))))
    refine wpQuiet_nil ?_
    rintro _ ⟨gg, rfl⟩
    go_wp2_with fail
    refine (hsg _ (HS.out.grow (by repeat (with_reducible first | exact Chg.refl _ _ | refine chg_m ?_ _ | refine chg_g ?_ _ | refine chg_alloc ?_ _ | refine chg_drew ?_ | refine chg_drewN ?_ _ | refine chg_set ?_ _ _ _)))).mono ?_
    rintro e W3 ⟨rfl, g2, e3⟩
    have c3 : Chg Noth w W3 := by rw [e3]; exact (by repeat (with_reducible first | exact Chg.refl _ _ | refine chg_m ?_ _ | refine chg_g ?_ _ | refine chg_alloc ?_ _ | refine chg_drew ?_ | refine chg_drewN ?_ _ | refine chg_set ?_ _ _ _))
    have hq : ∀ b, b < 5 → W3.heap[w.heap.size + b]? = W3.heap[w.heap.size + b]? := fun _ _ => rfl
    have hit3 : ∀ g : Grows W3, Calls Tryd.prog 22 #[.int .i64 t] g.w (Gr (.string ⟨D.toArray⟩) g.w) := fun g => hit _ (HP.out.grow (c3.trans g.h (fun _ _ e => e)))
    clear hit hsg
    subst e3
    go_wp2_with fail
    refine wp_region_grows (by kernel_rfl) (by kernel_rfl) ?_
    repeat (go_big_quiet_step ((first | (go_at_call 21; exact grows_of (hmk _)) | (go_at_call 22; exact grows_of (hit3 _)))))
    refine wpQuiet_nil ?_
    rintro _ ⟨g4, rfl⟩
    go_wp2
    go_ret2
    have hN : (⟨N.toArray⟩ : ByteArray) = ⟨E.toArray⟩ ++ ⟨M.toArray⟩ ++ ⟨D.toArray⟩ := by
      rw [HN.out]
      apply ByteArray.ext
      simp
    exact gr_mk (by rw [hN]; rfl) (by repeat (with_reducible first | exact Chg.refl _ _ | refine chg_m ?_ _ | refine chg_g ?_ _ | refine chg_alloc ?_ _ | refine chg_drew ?_ | refine chg_drewN ?_ _ | refine chg_set ?_ _ _ _))
  · have hv : vld l.length o t k = false := by simpa using hv
    rw [hv] at hva
    have hB : prB l o t k = ⟨#[]⟩ := by unfold prB; rw [if_neg (by simp [hv])]
    have hE : prE l o t k = 50 := by unfold prE; rw [if_neg (by simp [hv])]
    rw [hB, hE]
    generalize l.length = n at *
    clear hS hB hE hv
    go_enter Tryd.func8, Tryd.ntmps8
    go_wp2_with fail
    refine wp_region_grows (by kernel_rfl) (by kernel_rfl) ?_
    repeat (go_big_quiet_step ((first | (go_at_call 19; exact grows_of (hsz _)) | (go_at_call 18; exact grows_of (hva _)))))
    refine wpQuiet_nil ?_
    rintro _ ⟨gg, rfl⟩
    go_wp2
    go_ret2
    exact gr_mk rfl (by repeat (with_reducible first | exact Chg.refl _ _ | refine chg_m ?_ _ | refine chg_g ?_ _ | refine chg_alloc ?_ _ | refine chg_drew ?_ | refine chg_drewN ?_ _ | refine chg_set ?_ _ _ _))
end Go.Proofs.YtgohhallpkknfaaDoor
