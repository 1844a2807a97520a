/- BagSpoilt, where a byte is turned. -/
import Derived.Test.YteemkceceaabkaaSp
namespace Go.Proofs.Yteemkceceaabkaa
open Go.RowKit Go.Ear
set_option maxHeartbeats 2000000
set_option maxRecDepth 100000

theorem spoilt_good (ops : List OpS) (A : Option Addr) (c i : Nat) (a b : Int) (w : World) (hS : Scr w A ops) (hl : lightF ops = true) (ha : -9223372036854775808 ≤ a ∧ a ≤ 9223372036854775807) (x : Gm) (hx : (runS ⟨60, 0, []⟩ ops).1.l[i]? = some x) (hb1 : 1 ≤ b) (hb2 : b ≤ 255) (hlen : 0 < x.data.length) :
    Calls Try.prog 6 #[.slice A ops.length c, i64 i, i64 a, i64 b] w (Gr (.bool true) w) := by
  have hlight := fun W h => light_any ops A c W h
  rw [hl] at hlight
  obtain ⟨hn, hl2⟩ : ops.length ≤ 150 ∧ ∀ o ∈ ops, o.data.length ≤ 2000 := by simpa [lightF] using hl
  clear hl
  have hnew := new_good 60
  have hrun := fun W h => run_any w.heap.size ⟨60, 0, []⟩ ops A c w W hS h hn hl2 (by simp) (Nat.le_refl _)
  have hinv := inv_run (r := 60) (by omega) ops
  generalize runS ⟨60, 0, []⟩ ops = S at *
  obtain ⟨⟨r, last, L⟩, mm, tt⟩ := S
  have hroom := hinv.room
  have hfits := hinv.fits
  simp only at hrun hroom hfits
  subst hroom
  have HI := Lib.hid hinv
  clear hinv
  have hsm : ∀ g ∈ L, g.data.length ≤ 1024 := HI.out.small
  have HSM := Lib.hid hsm
  clear hsm
  have hall := fun p F W h => all_any p ⟨60, last, L⟩ F W h
  simp only at hall
  obtain ⟨n, hnL⟩ : ∃ n, n = L.length := ⟨_, rfl⟩
  have hfit2 : n ≤ 60 := by omega
  rw [← hnL] at hall
  have HN := Lib.hid hnL
  clear hfits
  simp only at hx
  have hi : i < n := by have := (List.getElem?_eq_some_iff.1 hx).1; omega
  obtain ⟨j, hj⟩ : ∃ j, j = (a % (x.data.length : Int)).toNat := ⟨_, rfl⟩
  have hjl : j < x.data.length := by
    have h1 := Int.emod_nonneg a (show (x.data.length : Int) ≠ 0 by omega)
    have h2 := Int.emod_lt_of_pos a (show (0 : Int) < x.data.length by omega)
    omega
  obtain ⟨u, hu⟩ : ∃ u, u = UInt8.ofNat b.toNat := ⟨_, rfl⟩
  have hu0 : u ≠ 0 := by
    intro e
    have := congrArg UInt8.toNat (hu.symm.trans e)
    simp at this
    omega
  have hxor : ∀ d : UInt8, bits .xor .u8 (d.toNat : Int) b = ((d ^^^ u).toNat : Int) := fun d => by rw [hu]; exact xor_byte d b (by omega) hb2
  have hsp := fun F W h => spoil_any w.heap.size ⟨60, last, L⟩ F i a b W h ha
  rw [spoil_turned L last i a b x hx hb1 hb2 hlen, ← hj, ← hu] at hsp
  have hx2 : (L.set i (turned x j u))[i]? = some (turned x j u) := by rw [List.getElem?_set_self (by omega)]
  have hsp2 := fun F W h => spoil_any w.heap.size ⟨60, last, L.set i (turned x j u)⟩ F i a b W h ha
  have hback : (L.set i (turned x j u)).set i x = L := by
    rw [List.set_set]
    apply List.ext_getElem?
    intro k
    by_cases hk : k = i
    · subst hk; rw [List.getElem?_set_self (by omega), hx]
    · rw [List.getElem?_set_ne (by omega)]
  rw [spoil_turned _ last i a b (turned x j u) hx2 hb1 hb2 (by rw [turned_len]; exact hlen), turned_len, ← hj, ← hu, turned_twice x j u hjl, hback] at hsp2
  have hall2 := fun p F W h => all_any p ⟨60, last, L.set i (turned x j u)⟩ F W h
  simp only [List.length_set] at hall2
  rw [← hnL] at hall2
  simp only at hsp hsp2
  have hsame : ∀ k y, L[k]? = some y → ∃ z, (L.set i (turned x j u))[k]? = some z ∧ z.id = y.id ∧ z.data.length = y.data.length ∧ ∀ m, m < y.data.length → ∃ d e : UInt8, y.data[m]? = some d ∧ z.data[m]? = some e ∧ ((k = i ∧ m = j ∧ e = d ^^^ u ∧ d ≠ e) ∨ (¬ (k = i ∧ m = j) ∧ d = e)) := fun k y hy => by
    by_cases hk : k = i
    · subst hk
      rw [hx] at hy
      cases hy
      refine ⟨_, hx2, rfl, turned_len _ _ _, fun m hm => ?_⟩
      obtain ⟨d, e, h1, h2, h3⟩ := turned_byte x j m u hm hu0
      refine ⟨d, e, h1, h2, ?_⟩
      rcases h3 with ⟨h3, h4⟩ | ⟨h3, h4⟩
      · exact .inl ⟨rfl, h3, h4⟩
      · exact .inr ⟨fun e => h3 e.2, h4⟩
    · refine ⟨y, by rw [List.getElem?_set_ne (by omega)]; exact hy, rfl, rfl, fun m hm => ⟨y.data[m], y.data[m], List.getElem?_eq_getElem hm, List.getElem?_eq_getElem hm, .inr ⟨fun e => hk e.1, rfl⟩⟩⟩
  have HSAME := Lib.hid hsame
  clear hsame hback
  have hL2 : ∀ g ∈ L.set i (turned x j u), g.data.length ≤ 1024 := fun g hg => by
    rcases List.mem_or_eq_of_mem_set hg with h | rfl
    · exact HSM.out g h
    · rw [turned_len]; exact HSM.out x (List.mem_of_getElem? hx)
  have hiend : ∀ k y, L[k]? = some y → k = i → j < y.data.length := fun k y hy e => by subst e; rw [hx] at hy; cases hy; exact hjl
  have HE := Lib.hid hiend
  have HXOR := Lib.hid hxor
  have hl2n : (L.set i (turned x j u)).length = n := by rw [List.length_set, hnL]
  have HL2 := Lib.hid hl2n
  generalize L.set i (turned x j u) = L2 at *
  clear hx hx2 hj hu hu0 hnL hiend hxor hl2n hjl hlen hL2
  go_enter Try.func6, Try.ntmps6
  go_wp2_with (first
      | (go_at_call 10; refine (hnew _ (by omega) (by omega)).mono ?_; rintro e w' ⟨rfl, ⟨g1, rfl⟩, hB⟩)
      | (go_at_call 16; refine (hlight _ (hS.grow (by repeat (with_reducible first | exact Chg.refl _ _ | refine chg_m ?_ _ | refine chg_g ?_ _ | refine chg_alloc ?_ _ | refine chg_drew ?_ | refine chg_drewN ?_ _ | refine chg_set ?_ _ _ _)))).mono ?_; rintro e w' ⟨rfl, g2, rfl⟩)
      | (go_at_call 17; refine (hrun _ ⟨g1.join g2, rfl, _, hB.grow g2.h, fun k hk => by omega⟩).mono ?_; rintro e w' ⟨rfl, g3, rfl, F, hB3, hF3⟩))
  refine (hall _ _ _ hB3).mono ?_
  rintro e X ⟨A1, c1, vs, rfl, ⟨g4, e4⟩, hgl⟩
  have hB4 : IsBag X w.heap.size ⟨60, last, L⟩ F := by rw [e4]; exact hB3.grow g4.h
  have hC4 : Chg Noth w X := by rw [e4]; exact g3.h.trans g4.h (fun _ _ e => e)
  have hFb : ∀ k, F k → k < g3.w.heap.size := fun k hk => hB3.lt hk
  have hglt : ∀ k, ((Value.slice A1 n c1).ownBlock = some k ∨ ∃ v ∈ vs, v.ownBlock = some k) → g3.w.heap.size ≤ k ∧ k < X.heap.size := fun k hk => hgl.blk k hk
  generalize g3.w.heap.size = b1 at *
  clear e4 g4 hrun hnew hlight hB hB3
  go_wp2_with fail
  refine (hsp _ _ hB4).mono ?_
  rintro e Y ⟨rfl, m, F2, e5, hB5, hF2⟩
  have hCY : Chg F X Y := by rw [e5]; exact m.h
  rw [← e5] at hB5
  have hCw : Chg Noth w Y := hC4.trans hCY fun k hk hf => by have := hF3 k hf; omega
  have hglY : GL Y b1 (.slice A1 n c1) vs L := hgl.chg hCY fun k _ hk e => by have := hglt k hk; have := hFb k e; omega
  have hszY := hCY.size
  have hne : ∀ k, ((Value.slice A1 n c1).ownBlock = some k ∨ ∃ v ∈ vs, v.ownBlock = some k) → ¬ F2 k := fun k hk e => by
    have h1 := hglt k hk
    rcases hF2 k e with h | h
    · have := hFb k h; omega
    · omega
  have hF2w : ∀ k, F2 k → w.heap.size ≤ k := fun k hk => by
    rcases hF2 k hk with h | h
    · exact hF3 k h
    · have := hC4.size; omega
  clear e5 m hgl hsp hB4 hFb hF2
  go_wp2_with fail
  refine (hall2 _ _ _ hB5).mono ?_
  rintro e V ⟨A2, c2, us, rfl, ⟨g6, e6⟩, hgl2⟩
  have hCV : Chg Noth Y V := by rw [e6]; exact g6.h
  have hCwV : Chg Noth w V := hCw.trans hCV fun _ _ e => e
  have hglV := hglY.grow hCV
  have hBV := hB5.grow hCV
  have hl3 : n ≤ 60 := hfit2
  clear e6 g6 hall2 hglY hB5
  go_wp2_with fail
  go_loopw [16, 17] (fun q i' wr => ∃ (k : Nat) (g : Grows V), k ≤ n ∧ i' = .int .i64 k ∧ q = .int .i64 (cntO i k : Nat) ∧ wr = g.w) (fun _ i' _ => n - (intOf i').toNat)
  case atStart => exact ⟨0, ⟨V, Chg.refl _ _⟩, Nat.zero_le _, rfl, rfl, rfl⟩
  case round =>
    obtain ⟨k, g, hk, rfl, rfl, rfl⟩ := hrel
    by_cases hlt : k < n
    · obtain ⟨y, hy⟩ : ∃ y, L[k]? = some y := ⟨_, List.getElem?_eq_getElem (by have := HN.out; omega)⟩
      obtain ⟨z, hz, hid, hlenz, hbytes⟩ := HSAME.out k y hy
      have hys := HSM.out y (List.mem_of_getElem? hy)
      obtain ⟨ga, D, dc, e1, l1, a0, a1, a2, a3, s1, _⟩ := hglV.at k y hy
      cases e1
      obtain ⟨gb, E, ec, e2, l2, b0, b1', b2', b3, s2, _⟩ := hgl2.at k z hz
      cases e2
      rw [hid] at b0
      rw [hlenz] at b3 s2
      have i1 : Old ga V := ⟨l1⟩
      have i2 : Old gb V := ⟨l2⟩
      have hend := Lib.hid (HE.out k y hy)
      have HB := Lib.hid hbytes
      clear hbytes hz hid hlenz hy
      generalize y.data.length = len at *
      have hlk : k < n := hlt
      clear hglt hne
      go_wp2
      refine wp_region_grows (by kernel_rfl) (by kernel_rfl) ?_
      repeat (go_big_quiet_step (fail))
      refine wpQuiet_nil ?_
      rintro _ ⟨g7, rfl⟩
      go_wp2
      go_loopw [16, 18] (fun q j' wr => ∃ (m : Nat) (g : Grows V), m ≤ len ∧ j' = .int .i64 m ∧ q = .int .i64 (cntI i j k m : Nat) ∧ wr = g.w) (fun _ j' _ => len - (intOf j').toNat)
      case atStart => exact ⟨0, g.join g7, Nat.zero_le _, rfl, by rw [cntI_zero], rfl⟩
      case round =>
        obtain ⟨m, g8, hm, rfl, rfl, rfl⟩ := hrel
        by_cases hlt2 : m < len
        · obtain ⟨d, e, hd, he, hcase⟩ := HB.out m hlt2
          obtain ⟨bb, ob, e3, lb, hcA⟩ := sl_at s1 (by omega)
          cases e3
          obtain ⟨bc, oc, e4, lc, hcB⟩ := sl_at s2 (by omega)
          cases e4
          have a9 := hcA m (.int .u8 (d.toNat : Int)) (by simp [bv, hd])
          have b9 := hcB m (.int .u8 (e.toNat : Int)) (by simp [bv, he])
          have i3 : Old bb V := ⟨lb⟩
          have i4 : Old bc V := ⟨lc⟩
          clear hcA hcB hd he s1 s2
          have hcl := cntI_le i j k m
          rcases hcase with ⟨hki, hmj, hex, hde⟩ | ⟨hno, hde⟩
          · have hn1 : ((d.toNat : Int) != (e.toNat : Int)) = true := by
              rw [bne_iff_ne]
              intro h
              exact hde (UInt8.toNat_inj.1 (by omega))
            have hx1 : bits .xor .u8 (d.toNat : Int) b = (e.toNat : Int) := by rw [hex]; exact HXOR.out d
            have hcc : Hid (cntI i j k (m + 1) = cntI i j k m + 1) := Lib.hid (by rw [hki, hmj]; exact cntI_hit i j)
            have hki' : ((k : Int) != (i : Int)) = false := by rw [hki]; simp
            have hdr : (d.toNat : Int) ≤ 255 := by have := d.toNat_lt; omega
            clear hex hde hmj hki
            go_wp2
            refine wp_region_grows (by kernel_rfl) (by kernel_rfl) ?_
            repeat (go_big_quiet_step (fail))
            refine wpQuiet_nil ?_
            rintro _ ⟨g9, rfl⟩
            go_wp2
            refine wp_region_grows (by kernel_rfl) (by kernel_rfl) ?_
            repeat (go_big_quiet_step (fail))
            refine wpQuiet_nil ?_
            rintro _ ⟨g10, rfl⟩
            go_wp2
            go_roundw
            case rel => exact ⟨m + 1, (g8.join g9).join g10, by omega, by go_num, by rw [hcc.out]; go_num, rfl⟩
            case measure => simp [intOf]; omega
          · subst hde
            have hcc : Hid (cntI i j k (m + 1) = cntI i j k m) := Lib.hid (cntI_miss i j k m hno)
            clear hno
            go_wp2
            refine wp_region_grows (by kernel_rfl) (by kernel_rfl) ?_
            repeat (go_big_quiet_step (fail))
            refine wpQuiet_nil ?_
            rintro _ ⟨g9, rfl⟩
            go_wp2
            go_roundw
            case rel => exact ⟨m + 1, g8.join g9, by omega, by go_num, by rw [hcc.out], rfl⟩
            case measure => simp [intOf]; omega
        · obtain rfl : m = len := by omega
          go_wp2
          go_roundw
          case rel => exact ⟨k + 1, g8, by omega, by go_num, by rw [cntI_end i j k m hend.out], rfl⟩
          case measure => simp [intOf]; omega
    · obtain rfl : k = n := by omega
      have hc1 : cntO i k = 1 := by simp [cntO, hi]
      go_wp2_with fail
      refine (hsp2 _ _ (hBV.grow g.h)).mono ?_
      rintro e Z ⟨rfl, m, F3, e5, hB6, _⟩
      have hCZ : Chg F2 V Z := by rw [e5]; exact (g.h.mono fun _ _ e => e.elim).trans m.h fun _ _ e => e
      rw [← e5] at hB6
      have hCwZ : Chg Noth w Z := hCwV.trans hCZ fun q hq e => by have := hF2w q e; omega
      have hglZ : GL Z b1 (.slice A1 k c1) vs L := hglV.chg hCZ fun q _ hq e => hne q hq e
      clear e5 m hsp2 hBV hglV hgl2
      go_wp2_with fail
      refine (hall _ _ _ hB6).mono ?_
      rintro e U ⟨A3, c3, ws, rfl, ⟨g12, e12⟩, hgl3⟩
      have hCU : Chg Noth Z U := by rw [e12]; exact g12.h
      have hCwU : Chg Noth w U := hCwZ.trans hCU fun _ _ e => e
      have hglU := hglZ.grow hCU
      clear e12 g12 hall hglZ hB6
      have hc24 := fun (W : World) (hc : Chg Noth U W) => sameBag_any A1 A3 c1 c3 vs ws L k _ _ HN.out W (hglU.grow hc) (hgl3.grow hc) HSM.out (by omega)
      clear hglU hgl3 hglt hne
      go_wp2_with (first
        | (go_at_call 9; refine (alive_any _).mono ?_; rintro e w' ⟨rfl, g13, rfl⟩)
        | (go_at_call 24; refine (hc24 _ (by repeat (with_reducible first | exact Chg.refl _ _ | refine chg_m ?_ _ | refine chg_g ?_ _ | refine chg_alloc ?_ _ | refine chg_drew ?_ | refine chg_drewN ?_ _ | refine chg_set ?_ _ _ _))).mono ?_; rintro e w' ⟨rfl, g14, rfl⟩))
      go_ret
      exact gr_mk rfl (by repeat (with_reducible first | exact hCwU | exact Chg.refl _ _ | refine chg_m ?_ _ | refine chg_g ?_ _ | refine chg_alloc ?_ _ | refine chg_drew ?_ | refine chg_drewN ?_ _ | refine chg_set ?_ _ _ _))

theorem wf_range {n : Int} (h : (Lit.int .i64 n).wf = true) : -9223372036854775808 ≤ n ∧ n ≤ 9223372036854775807 := by
  simp [Lit.wf, IntKind.min, IntKind.max, IntKind.bits, IntKind.signed] at h
  omega
theorem spoilt_any (ops : List OpS) (A : Option Addr) (c : Nat) (i a b : Int) (w : World) (hS : Scr w A ops) (ha : -9223372036854775808 ≤ a ∧ a ≤ 9223372036854775807) :
    Calls Try.prog 6 #[.slice A ops.length c, i64 i, i64 a, i64 b] w (Gr (.bool true) w) := by
  cases hl : lightF ops
  · exact spoilt_out ops A c i a b w hS hl
  · by_cases h0 : i < 0
    · exact spoilt_bad ops A c i a b w hS hl ha 91 (.inl rfl) (by simp only [spoilS, if_pos h0])
    · obtain ⟨i, rfl⟩ := Int.eq_ofNat_of_zero_le (show 0 ≤ i by omega)
      rcases hx : (runS ⟨60, 0, []⟩ ops).1.l[i]? with _ | x
      · exact spoilt_bad ops A c i a b w hS hl ha 91 (.inl rfl) (by simp only [spoilS, if_neg h0, Int.toNat_natCast, hx])
      · by_cases hb : b < 1 ∨ 255 < b ∨ x.data.length = 0
        · exact spoilt_bad ops A c i a b w hS hl ha 1 (.inr rfl) (by simp only [spoilS, if_neg h0, Int.toNat_natCast, hx, if_pos hb])
        · exact spoilt_good ops A c i a b w hS hl ha x hx (by omega) (by omega) (by omega)
end Go.Proofs.Yteemkceceaabkaa
