/- Lists of steps that are alike are told so. ScriptLines' walk. From the walk of a law ("it returns true, and nothing that was there has turned") to what its row asks, whatever the types of its parameters. -/
import Derived.Test.YtkamjhhaghkdmaaDoorH51
import Derived.Test.YtkamjhhaghkdmaaDoorH15
import Derived.ProofKit
import Derived.OpenShut
namespace Go.Proofs.YtkamjhhaghkdmaaDoor
open Go.RowKit Go.Ear Go.Shelf
set_option maxHeartbeats 4000000
set_option maxRecDepth 100000
set_option linter.unusedSimpArgs false
set_option linter.unusedVariables false
theorem sl_cells {w : World} {A : Option Addr} {n c sz : Nat} {xs : List Value} (h : SL w (.slice A n c) n sz xs) (hp : 0 < n) : ∃ b off, A = some ⟨b, off, none⟩ ∧ b < w.heap.size ∧ ∀ i u, xs[i]? = some u → w.cell? ⟨b, off + i, none⟩ = some u := by
  obtain ⟨_, A', c', e, _, _, h2⟩ := h
  simp only [Value.slice.injEq, true_and] at e
  obtain ⟨rfl, rfl⟩ := e
  exact h2 hp
theorem sameBytes_v (A B : Option Addr) (c d : Nat) (l : List UInt8) (n : Nat) (hn : n = l.length) (w : World) (hA : SL w (.slice A n c) n 1 (bv l)) (hB : SL w (.slice B n d) n 1 (bv l)) (hle : n ≤ 1000000000000000) :
    Calls Tryd.prog 16 #[.slice A n c, .slice B n d] w (Gr (.bool true) w) := by
  rcases Nat.eq_zero_or_pos n with h0 | hp
  · clear hA hB hn
    subst h0
    go_enter Tryd.func16, Tryd.ntmps16
    go_wp2
    refine wp_loop_rounds 1 ?_
    rw [rounds_succ]
    go_wp2
    go_ret
    exact gr_same rfl
  · obtain ⟨b, off, rfl, hb, hcA⟩ := sl_cells hA hp
    obtain ⟨b', off', rfl, hb', hcB⟩ := sl_cells hB hp
    have i1 : Old b w := ⟨hb⟩
    have i2 : Old b' w := ⟨hb'⟩
    clear hA hB
    have HN := Lib.hid hn
    clear hn
    go_enter Tryd.func16, Tryd.ntmps16
    go_wp2
    go_loopw [5] (fun i wr => ∃ (k : Nat) (g : Grows w), k ≤ n ∧ i = .int .i64 k ∧ wr = g.w) (fun i _ => n - (intOf i).toNat)
    case atStart => exact ⟨0, ⟨w, Chg.refl _ _⟩, Nat.zero_le _, rfl, rfl⟩
    case round =>
      obtain ⟨k, g, hk, rfl, rfl⟩ := hrel
      by_cases hlt : k < n
      · have hkl : k < l.length := by have := HN.out; omega
        have hx : (bv l)[k]? = some (.int .u8 ((l[k]'hkl).toNat : Int)) := by simp [bv, hkl]
        have a1 := hcA k _ hx
        have b1 := hcB k _ hx
        generalize (l[k]'hkl).toNat = x at a1 b1
        clear hx hcA hcB
        go_wp2
        refine wp_region_grows (by kernel_rfl) (by kernel_rfl) ?_
        repeat (go_big_quiet_step (fail))
        refine wpQuiet_nil ?_
        rintro _ ⟨g2, rfl⟩
        go_wp2
        go_roundw
        case rel => exact ⟨k + 1, g.join g2, by omega, by go_num, rfl⟩
        case measure => simp [intOf]; omega
      · go_wp2
        go_ret
        exact gr_mk rfl (by repeat (with_reducible first | exact Chg.refl _ _ | refine chg_m ?_ _ | refine chg_g ?_ _ | refine chg_alloc ?_ _ | refine chg_drew ?_ | refine chg_drewN ?_ _ | refine chg_set ?_ _ _ _))
theorem sameSteps_v (A B : Option Addr) (n c d : Nat) (vs us : List Value) (L : List StepS) (w : World) (hA : SR w (.slice A n c) vs L) (hB : SR w (.slice B n d) us L) (hle : n ≤ 1000000000000000) :
    Calls Tryd.prog 15 #[.slice A n c, .slice B n d] w (Gr (.bool true) w) := by
  rcases Nat.eq_zero_or_pos n with h0 | hp
  · clear hA hB
    subst h0
    go_enter Tryd.func15, Tryd.ntmps15
    go_wp2
    refine wp_loop_rounds 1 ?_
    rw [rounds_succ]
    go_wp2
    go_ret
    exact gr_same rfl
  · obtain ⟨hn, hcc1, b, off, rfl, hb, hcA⟩ := hA.cells hp
    obtain ⟨hn2, hcc2, b', off', rfl, hb', hcB⟩ := hB.cells hp
    clear hn2 hcc1 hcc2
    have i1 : Old b w := ⟨hb⟩
    have i2 : Old b' w := ⟨hb'⟩
    have HN := Lib.hid (And.intro hn (And.intro hA.len hB.len))
    clear hn hA hB
    go_enter Tryd.func15, Tryd.ntmps15
    go_wp2
    go_loopw [5] (fun i wr => ∃ (k : Nat) (g : Grows w), k ≤ n ∧ i = .int .i64 k ∧ wr = g.w) (fun i _ => n - (intOf i).toNat)
    case atStart => exact ⟨0, ⟨w, Chg.refl _ _⟩, Nat.zero_le _, rfl, rfl⟩
    case round =>
      obtain ⟨k, g, hk, rfl, rfl⟩ := hrel
      by_cases hlt : k < n
      · obtain ⟨s, hs⟩ : ∃ s, L[k]? = some s := ⟨_, List.getElem?_eq_getElem (by have := HN.out.1; omega)⟩
        obtain ⟨u, hu⟩ : ∃ s, vs[k]? = some s := ⟨_, List.getElem?_eq_getElem (by have := HN.out; omega)⟩
        obtain ⟨u', hu'⟩ : ∃ s, us[k]? = some s := ⟨_, List.getElem?_eq_getElem (by have := HN.out; omega)⟩
        obtain ⟨a0, a1, a2, a3, _⟩ := hcA k s u hs hu
        obtain ⟨b0, b1, b2, b3, _⟩ := hcB k s u' hs hu'
        obtain ⟨s0, s1, s2, s3, sd⟩ := s
        simp only at a0 a1 a2 a3 b0 b1 b2 b3
        clear hs hu hu' hcA hcB
        go_wp2_with fail
        refine wp_region_grows (by kernel_rfl) (by kernel_rfl) ?_
        repeat (go_big_quiet_step (fail))
        refine wpQuiet_nil ?_
        rintro _ ⟨g2, rfl⟩
        go_wp2_with fail
        go_roundw
        case rel => exact ⟨k + 1, g.join g2, by omega, by go_num, rfl⟩
        case measure => simp [intOf]; omega
      · go_wp2
        go_ret
        exact gr_mk rfl (by repeat (with_reducible first | exact Chg.refl _ _ | refine chg_m ?_ _ | refine chg_g ?_ _ | refine chg_alloc ?_ _ | refine chg_drew ?_ | refine chg_drewN ?_ _ | refine chg_set ?_ _ _ _))
theorem sameScript_v (A B : Option Addr) (n c d : Nat) (vs us : List Value) (L : List StepS) (w : World) (hA : SR w (.slice A n c) vs L) (hB : SR w (.slice B n d) us L) (hle : n ≤ 1000000000000000) (hsm : ∀ s ∈ L, s.small) :
    Calls Tryd.prog 8 #[.slice A n c, .slice B n d] w (Gr (.bool true) w) := by
  have hss := sameSteps_v A B n c d vs us L w hA hB hle
  rcases Nat.eq_zero_or_pos n with h0 | hp
  · clear hA hB
    subst h0
    go_enter Tryd.func8, Tryd.ntmps8
    go_wp2_with (go_at_call 15; refine hss.mono ?_; rintro e w' ⟨rfl, g, rfl⟩)
    clear hss
    refine wp_loop_rounds 1 ?_
    rw [rounds_succ]
    go_wp2
    go_ret
    exact gr_mk rfl g.h
  · have hdA := hA.data
    have hdB := hB.data
    obtain ⟨hn, hcc1, b, off, rfl, hb, hcA⟩ := hA.cells hp
    obtain ⟨hn2, hcc2, b', off', rfl, hb', hcB⟩ := hB.cells hp
    clear hn2 hcc1 hcc2
    have i1 : Old b w := ⟨hb⟩
    have i2 : Old b' w := ⟨hb'⟩
    have HN := Lib.hid (And.intro hn (And.intro hA.len (And.intro hB.len (And.intro hdA (And.intro hdB hsm)))))
    clear hn hA hB hdA hdB hsm
    go_enter Tryd.func8, Tryd.ntmps8
    go_wp2_with (go_at_call 15; refine hss.mono ?_; rintro e w' ⟨rfl, g0, rfl⟩)
    clear hss
    have hg0 := g0.h
    go_loopw [5] (fun i wr => ∃ (k : Nat), k ≤ n ∧ i = .int .i64 k ∧ Chg Noth w wr) (fun i _ => n - (intOf i).toNat)
    case atStart => exact ⟨0, Nat.zero_le _, rfl, hg0⟩
    case round =>
      obtain ⟨k, hk, rfl, hc⟩ := hrel
      by_cases hlt : k < n
      · obtain ⟨s, hs⟩ : ∃ s, L[k]? = some s := ⟨_, List.getElem?_eq_getElem (by have := HN.out.1; omega)⟩
        obtain ⟨u, hu⟩ : ∃ s, vs[k]? = some s := ⟨_, List.getElem?_eq_getElem (by have := HN.out; omega)⟩
        obtain ⟨u', hu'⟩ : ∃ s, us[k]? = some s := ⟨_, List.getElem?_eq_getElem (by have := HN.out; omega)⟩
        obtain ⟨_, _, _, _, a4⟩ := hcA k s u hs hu
        obtain ⟨_, _, _, _, b4⟩ := hcB k s u' hs hu'
        have d1 := HN.out.2.2.2.1 k s u hs hu
        have d2 := HN.out.2.2.2.2.1 k s u' hs hu'
        have hsz : s.data.length ≤ 300000 := HN.out.2.2.2.2.2 s (List.mem_of_getElem? hs)
        obtain ⟨_, uA, uc, rfl, _⟩ := id d1
        obtain ⟨_, uB, ud, rfl, _⟩ := id d2
        have hsb := fun W (hW : Chg Noth wr W) => sameBytes_v uA uB uc ud s.data s.data.length rfl W (d1.grow (hc.trans hW (fun _ _ h => h))) (d2.grow (hc.trans hW (fun _ _ h => h))) (by omega)
        have a4 := (hc.cell (p := ⟨b, off + k * 5 + 4, none⟩) hb (fun e => e)).trans a4
        have b4 := (hc.cell (p := ⟨b', off' + k * 5 + 4, none⟩) hb' (fun e => e)).trans b4
        have j1 : Old b wr := ⟨Nat.lt_of_lt_of_le hb hc.size⟩
        have j2 : Old b' wr := ⟨Nat.lt_of_lt_of_le hb' hc.size⟩
        have HC := Lib.hid hc
        clear hs hu hu' hcA hcB d1 d2 hc hg0
        obtain ⟨dl, hdl⟩ : ∃ n, s.data.length = n := ⟨_, rfl⟩
        rw [hdl] at hsb a4 b4
        clear hdl hsz
        go_wp2_with fail
        refine wp_region_grows (by kernel_rfl) (by kernel_rfl) ?_
        repeat (go_big_quiet_step ((go_at_call 16; with_reducible refine grows_of (hsb _ ?_); exact Muts.h _)))
        refine wpQuiet_nil ?_
        rintro _ ⟨g2, rfl⟩
        clear hsb
        go_wp2
        go_roundw
        case rel => exact ⟨k + 1, by omega, by go_num, HC.out.trans g2.h (fun _ _ h => h)⟩
        case measure => simp [intOf]; omega
      · have HC := Lib.hid hc
        clear hc hg0
        go_wp2
        go_ret
        exact gr_mk rfl HC.out
end Go.Proofs.YtkamjhhaghkdmaaDoor
namespace Go.Proofs.YtkamjhhaghkdmaaDoor
open Go.RowKit Go.Ear Go.Shelf
set_option maxHeartbeats 4000000
set_option maxRecDepth 100000
set_option linter.unusedSimpArgs false
set_option linter.unusedVariables false
theorem toList_cat (a b : ByteArray) : (a ++ b).data.toList = a.data.toList ++ b.data.toList := by
  simp
/-- The lines counted. -/
def cntN (l : List UInt8) (k : Nat) : Nat := (l.take k).count 10 + 1
theorem cntN_next {l : List UInt8} {k : Nat} {c : UInt8} (h : l[k]? = some c) : cntN l (k + 1) = cntN l k + (if c = 10 then 1 else 0) := by
  unfold cntN
  rw [List.take_add_one, h, List.count_append]
  by_cases hc : c = 10
  · subst hc
    simp
  · rw [if_neg hc]
    simp [hc]
theorem cntN_le (l : List UInt8) (k : Nat) : cntN l k ≤ k + 1 := by
  unfold cntN
  have h1 := List.count_le_length (a := (10 : UInt8)) (l := l.take k)
  have h2 : (l.take k).length ≤ k := by simp; omega
  omega
theorem lines_law (t more : ByteArray) (w : World) (ht : t.size ≤ 140737488355328) (hm : more.size ≤ 140737488355328) : Calls Tryd.prog 4 #[.string t, .string more] w (Gr (.bool true) w) := by
  have hpa := fun W => parse_v t W
  have hal := fun W => alive_v W
  cases hR : parse t.data.toList with
  | error x =>
    obtain ⟨er, no⟩ := x
    have h0 := parse_err hR
    have y1 : (er != 0) = true := by simpa using h0
    rw [hR] at hpa
    clear hR h0
    go_enter Tryd.func4, Tryd.ntmps4
    go_wp2_with fail
    go_at_call 5
    refine (hpa _).mono ?_
    rintro e X ⟨hc, rfl⟩
    go_wp2_with fail
    go_at_call 6
    refine (hal _).mono ?_
    rintro e X2 ⟨rfl, hc2⟩
    go_wp2_with fail
    go_ret
    exact gr_mk rfl ((hc.trans (chg_alloc (Chg.refl _ _) _) (fun _ _ h => h)).trans hc2 (fun _ _ h => h))
  | ok r0 =>
    obtain ⟨b, f, L⟩ := r0
    have hsml := parse_small hR
    rw [hR] at hpa
    by_cases hbig : 60000 < t.size + more.size
    · have y1 : decide ((60000 : Int) < (t.size : Int) + (more.size : Int)) = true := decide_eq_true (by omega)
      have y2 : wrap64 ((t.size : Int) + (more.size : Int)) = (t.size : Int) + (more.size : Int) := by rw [wid] <;> omega
      go_enter Tryd.func4, Tryd.ntmps4
      go_wp2_with fail
      go_at_call 5
      refine (hpa _).mono ?_
      rintro e X ⟨hc, gs, vs, rfl, hss⟩
      obtain ⟨A, c, rfl⟩ := own_shape hss.own
      clear hss hsml hR hpa
      obtain ⟨Ln, hLn⟩ : ∃ n, L.length = n := ⟨_, rfl⟩
      rw [hLn]
      go_wp2_with fail
      go_at_call 6
      refine (hal _).mono ?_
      rintro e X2 ⟨rfl, hc2⟩
      go_wp2_with fail
      go_ret
      exact gr_mk rfl ((hc.trans (chg_alloc (Chg.refl _ _) _) (fun _ _ h => h)).trans hc2 (fun _ _ h => h))
    · have y1 : decide ((60000 : Int) < (t.size : Int) + (more.size : Int)) = false := decide_eq_false (by omega)
      have y2 : wrap64 ((t.size : Int) + (more.size : Int)) = (t.size : Int) + (more.size : Int) := by rw [wid] <;> omega
      have hlaw := parse_lines t.data.toList more.data.toList b f L hR (by
        have e1 : t.data.toList.length = t.size := by rw [Array.length_toList]; rfl
        have e2 : more.data.toList.length = more.size := by rw [Array.length_toList]; rfl
        omega)
      have hpa2 := fun W => parse_v (t ++ ⟨#[10]⟩ ++ more) W
      have hcat : (t ++ ⟨#[10]⟩ ++ more : ByteArray).data.toList = t.data.toList ++ 10 :: more.data.toList := by
        rw [toList_cat, toList_cat]
        simp
      rw [hcat] at hpa2
      have z1 : ¬ 9223372036854775807 < t.size + 1 := by omega
      have z2 : ¬ 9223372036854775807 < t.size + 1 + more.size := by omega
      have hts : t.size ≤ 60000 := by omega
      have HL := Lib.hid (And.intro hlaw (And.intro hsml hR))
      clear hlaw hsml hR hcat hbig ht hm
      go_enter Tryd.func4, Tryd.ntmps4
      go_wp2_with fail
      go_at_call 5
      refine (hpa _).mono ?_
      rintro e X ⟨hc, gs, vs, rfl, hss⟩
      obtain ⟨A, c, rfl⟩ := own_shape hss.own
      have HX := Lib.hid (And.intro hc hss)
      clear hss hc hpa
      obtain ⟨Ln, hLn⟩ : ∃ n, L.length = n := ⟨_, rfl⟩
      rw [hLn]
      have HLn := Lib.hid hLn
      clear hLn
      go_wp2_with fail
      go_loopw [9, 10] (fun i9 i10 wr => ∃ (k : Nat), k ≤ t.size ∧ i9 = .int .i64 (cntN t.data.toList k : Nat) ∧ i10 = .int .i64 k ∧ Chg Noth X wr) (fun i9 i10 _ => t.size - (intOf i10).toNat)
      case atStart => exact ⟨0, Nat.zero_le _, rfl, rfl, chg_alloc (Chg.refl _ _) _⟩
      case round =>
        obtain ⟨k, hk, rfl, rfl, hcr⟩ := hrel
        by_cases hlt : k < t.size
        · have hby : t.data.toList[k]? = some t[k] := by
            rw [Array.getElem?_toList, Array.getElem?_eq_getElem hlt]
            rfl
          have hcn := cntN_next hby
          have hcb := cntN_le t.data.toList k
          have HC := Lib.hid (And.intro hcn (And.intro hcr hcb))
          clear hby hcn hcr hcb
          obtain ⟨q, hq⟩ : ∃ q, cntN t.data.toList k = q := ⟨_, rfl⟩
          have HQ := Lib.hid hq
          rw [hq]
          clear hq
          go_wp2_with fail
          · rename_i hh
            have h10 : t[k] = 10 := by
              have h1 : (t[k].toNat : Int) = 10 := by simpa using hh
              exact UInt8.toNat_inj.1 (by show t[k].toNat = 10; omega)
            have hcn := HC.out.1
            rw [if_pos h10] at hcn
            have hcb := HC.out.2.2
            have hq := HQ.out
            refine ⟨⟨k + 1, by omega, ?_, by congr 1, HC.out.2.1⟩, by simp [intOf]; omega⟩
            rw [hcn, hq, wid] <;> first | rfl | omega
          · rename_i hh
            have h10 : ¬ t[k] = 10 := by
              intro e
              rw [e] at hh
              exact absurd hh (by decide)
            have hcn := HC.out.1
            rw [if_neg h10] at hcn
            have hq := HQ.out
            refine ⟨⟨k + 1, by omega, ?_, by congr 1, HC.out.2.1⟩, by simp [intOf]; omega⟩
            rw [hcn, hq]
            rfl
        · obtain rfl : k = t.size := by omega
          have hcl : cntN t.data.toList t.size = t.data.toList.count 10 + 1 := by
            unfold cntN
            rw [List.take_of_length_le (by simp)]
          rw [hcl]
          have hcb := cntN_le t.data.toList t.size
          rw [hcl] at hcb
          obtain ⟨q, hq⟩ : ∃ q, t.data.toList.count 10 + 1 = q := ⟨_, rfl⟩
          rw [hq] at hcb ⊢
          have hl := HL.out.1
          rw [hq] at hl
          have HR := Lib.hid (And.intro hcr hq)
          clear hcr hq hcl
          cases hP : parse (t.data.toList ++ 10 :: more.data.toList) with
          | error x =>
            obtain ⟨er, no⟩ := x
            have h0 := parse_err hP
            have y3 : (er == 0) = false := by simpa using h0
            rw [hP] at hl hpa2
            simp only at hl
            have y4 : decide (q < no) = true := decide_eq_true (by omega)
            clear hP h0 hl
            go_wp2_with fail
            go_at_call 5
            refine (hpa2 _).mono ?_
            rintro e X2 ⟨hc2, rfl⟩
            go_wp2_with fail
            go_at_call 6
            refine (hal _).mono ?_
            rintro e X3 ⟨rfl, hc3⟩
            go_wp2_with fail
            all_goals
              go_ret
              exact gr_mk rfl (((HX.out.1.trans HR.out.1 (fun _ _ h => h)).trans hc2 (fun _ _ h => h)).trans ((chg_alloc (Chg.refl _ _) _).trans hc3 (fun _ _ h => h)) (fun _ _ h => h))
          | ok r1 =>
            obtain ⟨b2, f2, M⟩ := r1
            have hsmM := parse_small hP
            rw [hP] at hl hpa2
            simp only at hl
            have HM := Lib.hid (And.intro hl hsmM)
            clear hP hl hsmM
            go_wp2_with fail
            go_at_call 5
            refine (hpa2 _).mono ?_
            rintro e X2 ⟨hc2, gs2, vs2, rfl, hss2⟩
            obtain ⟨A2, c2, rfl⟩ := own_shape hss2.own
            obtain ⟨Mn, hMn⟩ : ∃ n, M.length = n := ⟨_, rfl⟩
            have hcc2 : Mn ≤ c2 := by
              obtain ⟨_, A', c', e, _, h, _⟩ := SL.of_own hss2.own
              simp only [Value.slice.injEq] at e
              omega
            rw [hMn]
            have hge : Ln ≤ Mn := by have := HM.out.1.1; have := HLn.out; omega
            have y5 : decide ((Ln : Int) ≤ (Mn : Int)) = true := decide_eq_true (by omega)
            have HMn := Lib.hid (And.intro hMn (And.intro hc2 hss2))
            clear hMn hc2 hss2 hpa2
            go_wp2_with fail
            go_at_call 6
            refine (hal _).mono ?_
            rintro e X3 ⟨rfl, hc3⟩
            go_wp2_with fail
            have h13 : Chg Noth X X3 := (HR.out.1.trans HMn.out.2.1 (fun _ _ h => h)).trans ((chg_alloc (Chg.refl _ _) _).trans hc3 (fun _ _ h => h)) (fun _ _ h => h)
            have h23 : Chg Noth X2 X3 := (chg_alloc (Chg.refl _ _) _).trans hc3 (fun _ _ h => h)
            have hA : SR X3 (.slice A Ln c) vs L := by
              have := HX.out.2.sr.grow h13
              rwa [HLn.out] at this
            have hB : SR X3 (.slice A2 Ln c2) (vs2.take Ln) L := by
              have h1 := (HMn.out.2.2.sr.grow h23).take (k := Ln) (by have := HMn.out.1; omega)
              have h2 := HM.out.1.2
              rw [HLn.out] at h2
              rwa [h2] at h1
            have hLn := HLn.out
            have hsl := HL.out.2.1
            have hss := sameScript_v A A2 Ln c c2 vs (vs2.take Ln) L X3 hA hB (by omega) hsl.2
            have HC3 := Lib.hid (HX.out.1.trans h13 (fun _ _ h => h))
            clear hA hB hLn hsl h13 h23 hc3
            go_at_call 8
            with_reducible refine hss.mono ?_
            rintro e X4 ⟨rfl, g4, rfl⟩
            clear hss
            go_wp2_with fail
            all_goals
              go_ret
              exact gr_mk rfl (HC3.out.trans g4.h (fun _ _ h => h))
end Go.Proofs.YtkamjhhaghkdmaaDoor
namespace Go.Ear
open Go.ChangeShapes Go.WideShapes Go.ChangeAt Go.RowKit

section
variable {H : Type} {enc : TypeId × Value → H} {P : Program}

theorem trodAll_below (hl : laidOutB P = true) {W W' : World} (hb : Below W.heap.size W W') : ∀ {ts : List TypeId} {vs : List Value} {ds : List (DataW H)} {ps : List MemPlace},
    ts.all (fun t => P.readableRec t && decide (t < P.types.size)) = true → DataW.TrodAll enc P W 0 (fun _ => true) true ts vs ds ps → (∀ x ∈ ps, x.block < W.heap.size) →
    DataW.TrodAll enc P W' 0 (fun b => decide (b < W.heap.size)) true ts vs ds ps
  | [], vs, ds, ps, _, h, _ => by
    obtain ⟨rfl, rfl, rfl⟩ := trodAll_nil h
    exact trodAll_mk0
  | t :: ts, vs, ds, ps, hall, h, hlt => by
    obtain ⟨v, vs', d, ds', p, q, rfl, rfl, rfl, h1, h2⟩ := trodAll_cons h
    simp only [List.all_cons, Bool.and_eq_true, decide_eq_true_eq] at hall
    exact trodAll_cons_mk (Below.trod hl hall.1.1 hall.1.2 h1 hb fun x hx => hlt x (by simp [hx])) (trodAll_below hl hb (by simpa using hall.2) h2 fun x hx => hlt x (by simp [hx]))

theorem law_post {f : Func} {s : ChangeSpec} {tb : TypeId} {W W' : World} {args : Array Value} {ds : List (DataW H)} {before : List MemPlace} (hl : laidOutB P = true)
    (hp : f.params.toList.all (fun t => P.readableRec t && decide (t < P.types.size)) = true) (hr : f.resultTypes = #[tb]) (hub : P.underlying tb = some .bool) (hv : s.vars = [])
    (hW : DataW.Whole enc P f.params.toList s.vars false W args.toList ds [] before) (hres : (s.fn H (ds ++ [])).results = [.lit (.bool true)]) (hargs : (s.fn H (ds ++ [])).args = ds) (hvars : (s.fn H (ds ++ [])).vars = [])
    {e : Ending} (h : Gr (.bool true) W e W') : ∃ v, e = .returned v ∧ s.post enc P f false true false false W args v W' := by
  obtain ⟨he, g, rfl⟩ := h
  refine ⟨_, he, ds, [], before, [], before, [], hW, ?_, ?_, ?_, g.h.below.frame _, fun h => by cases h⟩
  · rw [hres, hr]
    exact trodAll_mk1 (shut_bool hub true)
  · rw [hargs]
    have hlt := hW.lt
    obtain ⟨p, q, hA, hV, rfl, _, _⟩ := hW
    rw [hv] at hV
    obtain ⟨_, rfl⟩ := trodVars_none hV
    simp only [List.append_nil] at hlt ⊢
    exact trodAll_below hl g.h.below hp hA hlt
  · rw [hv, hvars]
    exact rfl
end
end Go.Ear
