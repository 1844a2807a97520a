/- ScriptBlanks: blanks, remarks and empty lines make no difference, for every text. No condition but the card's: the tables lie as the program's text lays them. ScriptBlanks' walk. -/
import Derived.Test.YtkamjhhaghkdmaaDoorH52
import Derived.Test.YtkamjhhaghkdmaaDoorCards
import Derived.Test.YtkamjhhaghkdmaaDoorTie
import Derived.WalkKit
import Derived.ProofKit
import Derived.OpenShut
import Derived.Lib.SmallJoins
import Derived.ChangeMaps5
import Derived.Deep.DeepHandedRow
import Derived.Lib.LaidTab
import Derived.SizedLaws
namespace Go.Ear
set_option linter.unusedSimpArgs false
set_option linter.unusedVariables false
/-- A word laid anew. -/
def tokB (y : Wd) : List UInt8 := if y.kind = 1 then [9, 35, 32, 34, 10, 32, 10] else [32, 32] ++ y.text ++ [9]
def toksB (l : List (Nat × Wd)) : List UInt8 := l.flatMap fun x => tokB x.2
theorem toksB_words (no : Nat) : ∀ (ws : List Wd), (∀ x ∈ ws, x.kind ≠ 1) → toksB (ws.map fun x => (no, x)) = lnW ws
  | [], _ => rfl
  | y :: ws, h => by
    have ih := toksB_words no ws (fun x hx => h x (by simp [hx]))
    have e : toksB ((y :: ws).map fun x => (no, x)) = tokB y ++ toksB (ws.map fun x => (no, x)) := rfl
    have e2 : lnW (y :: ws) = ([32, 32] ++ y.text ++ [9]) ++ lnW ws := rfl
    rw [e, e2, ih]
    unfold tokB
    rw [if_neg (h y (by simp))]
theorem toksB_app (a b : List (Nat × Wd)) : toksB (a ++ b) = toksB a ++ toksB b := by simp [toksB]
theorem toksB_full : ∀ (rows : List (Nat × List Wd × Nat)), (∀ r ∈ rows, ∀ x ∈ r.2.1, x.kind ≠ 1) → toksB (toks rows) = blW (full rows)
  | [], _ => rfl
  | r :: rows, h => by
    have ih := toksB_full rows (fun r' hr => h r' (by simp [hr]))
    rw [toks_cons, full_cons, toksB_app, ih]
    by_cases he : r.2.1.isEmpty = true
    · rw [if_pos he, if_pos he]
      rfl
    · rw [if_neg he, if_neg he, toksB_app, toksB_words r.1 r.2.1 (h r (by simp))]
      have e : blW ((r.1, r.2.1) :: full rows) = (lnW r.2.1 ++ [9, 35, 32, 34, 10, 32, 10]) ++ blW (full rows) := rfl
      rw [e]
      rfl
theorem toksB_next {l : List (Nat × Wd)} {k : Nat} {x : Nat × Wd} (h : l[k]? = some x) : toksB (l.take (k + 1)) = toksB (l.take k) ++ tokB x.2 := by
  rw [List.take_add_one, h, toksB_app]
  simp [toksB]
end Go.Ear
namespace Go.Proofs.YtkamjhhaghkdmaaDoor
open Go.RowKit Go.Ear Go.Shelf
set_option maxHeartbeats 4000000
set_option maxRecDepth 100000
set_option linter.unusedSimpArgs false
set_option linter.unusedVariables false
theorem list_cat (a b : ByteArray) : (a ++ b).data.toList = a.data.toList ++ b.data.toList := by
  simp
theorem blanks_law (t : ByteArray) (w : World) : Calls Tryd.prog 3 #[.string t] w (Gr (.bool true) w) := by
  have hpa := fun W => parse_v t W
  have hal := fun W => alive_v W
  cases hR : parse t.data.toList with
  | error x =>
    obtain ⟨er, no⟩ := x
    have h0 := parse_err hR
    have y1 : (er != 0) = true := by simpa using h0
    rw [hR] at hpa
    clear hR h0
    go_enter Tryd.func3, Tryd.ntmps3
    go_wp2_with fail
    go_at_call 5
    refine (hpa _).mono ?_
    rintro e X ⟨hc, rfl⟩
    go_wp2_with fail
    go_at_call 6
    refine (hal _).mono ?_
    rintro e X2 ⟨rfl, hc2⟩
    go_wp2_with fail
    go_ret
    exact gr_mk rfl ((hc.trans (chg_alloc (Chg.refl _ _) _) (fun _ _ h => h)).trans hc2 (fun _ _ h => h))
  | ok r0 =>
    obtain ⟨b, f, L⟩ := r0
    have hsml := parse_small hR
    have hbl := parse_blanks t.data.toList b f L hR
    rw [hR] at hpa
    obtain ⟨rows, hrows, hbl⟩ := hbl
    have hsc := fun W => scan_any t W
    rw [hrows] at hsc
    have hse := scan_each hrows
    by_cases hbig : 8000 < t.size
    · have y1 : decide ((8000 : Int) < (t.size : Int)) = true := decide_eq_true (by omega)
      clear hsc hse hbl hrows
      go_enter Tryd.func3, Tryd.ntmps3
      go_wp2_with fail
      go_at_call 5
      refine (hpa _).mono ?_
      rintro e X ⟨hc, gs, vs, rfl, hss⟩
      obtain ⟨A, c, rfl⟩ := own_shape hss.own
      clear hss hsml hR hpa
      obtain ⟨Ln, hLn⟩ : ∃ n, L.length = n := ⟨_, rfl⟩
      rw [hLn]
      go_wp2_with fail
      go_at_call 6
      refine (hal _).mono ?_
      rintro e X2 ⟨rfl, hc2⟩
      go_wp2_with fail
      go_ret
      exact gr_mk rfl ((hc.trans (chg_alloc (Chg.refl _ _) _) (fun _ _ h => h)).trans hc2 (fun _ _ h => h))
    · have y1 : decide ((8000 : Int) < (t.size : Int)) = false := decide_eq_false (by omega)
      have hnk := toksB_full rows hse.2.1
      have htx : ∀ x ∈ toks rows, x.2.text.length ≤ 100000 := by
        intro x hx
        simp only [toks, List.mem_flatMap] at hx
        obtain ⟨r, hr, hx⟩ := hx
        split at hx
        · cases hx
        · rename_i hne
          rcases List.mem_append.1 hx with hx | hx
          · obtain ⟨y, hy, rfl⟩ := List.mem_map.1 hx
            refine (hse.2.2 (r.1, r.2.1) ?_).2.2 y hy
            simp only [full, List.mem_map, List.mem_filter]
            exact ⟨r, ⟨hr, by simpa using hne⟩, rfl⟩
          · rw [List.mem_singleton.1 hx]
            simp
      have HB := Lib.hid (And.intro hnk (And.intro htx (And.intro hbl (And.intro hsml hR))))
      clear hnk htx hbl hse hrows hsml hR
      go_enter Tryd.func3, Tryd.ntmps3
      go_wp2_with fail
      go_at_call 5
      refine (hpa _).mono ?_
      rintro e X ⟨hc, gs, vs, rfl, hss⟩
      obtain ⟨A, c, rfl⟩ := own_shape hss.own
      have HX := Lib.hid (And.intro hc hss)
      clear hss hc hpa
      obtain ⟨Ln, hLn⟩ : ∃ n, L.length = n := ⟨_, rfl⟩
      rw [hLn]
      have HLn := Lib.hid hLn
      clear hLn
      have hr0 : (X.alloc (.cells #[.string ⟨b.toArray⟩, .int .i64 f] 23)).heap[X.heap.size]? = some (.cells #[.string ⟨b.toArray⟩, .int .i64 f] 23) := heap_alloc_new _ _
      have hXa : Chg Noth X (X.alloc (.cells #[.string ⟨b.toArray⟩, .int .i64 f] 23)) := chg_alloc (Chg.refl _ _) _
      go_wp2_with fail
      generalize hXb : X.alloc (.cells #[.string ⟨b.toArray⟩, .int .i64 f] 23) = Xb at *
      clear hXb
      go_at_call 7
      refine (hsc _).mono ?_
      rintro e X2 ⟨v, rfl, hc2, hown, hle⟩
      obtain ⟨A2, c2, rfl⟩ := own_shape hown
      obtain ⟨N, hN⟩ : ∃ N, (toks rows).length = N := ⟨_, rfl⟩
      have hr2 := blk_grow hc2 hr0
      have hX2 : Chg Noth X X2 := hXa.trans hc2 (fun _ _ h => h)
      have HT := Lib.hid (And.intro hown (And.intro hN (And.intro hr2 hX2)))
      rw [hN] at hle ⊢
      clear hN hown hc2 hr0 hXa hsc hr2 hX2
      go_wp2_with fail
      go_loopw [11, 12] (fun s11 i12 wr => ∃ (k : Nat) (S : ByteArray), k ≤ N ∧ s11 = .string S ∧ i12 = .int .i64 k ∧ S.data.toList = [10, 35, 32, 112, 111, 108, 108, 10] ++ toksB ((toks rows).take k) ∧ S.size ≤ 8 + k * 100003 ∧ Chg Noth X2 wr) (fun s11 i12 _ => N - (intOf i12).toNat)
      case atStart => exact ⟨0, ⟨#[10, 35, 32, 112, 111, 108, 108, 10]⟩, Nat.zero_le _, rfl, rfl, rfl, Nat.le_refl _, Chg.refl _ _⟩
      case round =>
        obtain ⟨k, S, hk, rfl, rfl, hSl, hSz, hcr⟩ := hrel
        by_cases hlt : k < N
        · obtain ⟨x, hx⟩ : ∃ x, (toks rows)[k]? = some x := ⟨_, List.getElem?_eq_getElem (by have := HT.out.2.1; omega)⟩
          obtain ⟨ln, y⟩ := x
          obtain ⟨g, cap, e, _, hg⟩ := HT.out.1.form (by have := HT.out.2.1; omega)
          have hcl := HT.out.1
          rw [e] at hcl
          simp only [Value.slice.injEq] at e
          obtain ⟨rfl, _, rfl⟩ := e
          obtain ⟨t0, t1, _, _⟩ := tokT_cells hcl hx
          have t0 := (hcr.cell (p := ⟨g, k * 4, none⟩) hg (fun e => e)).trans t0
          have t1 := (hcr.cell (p := ⟨g, k * 4 + 1, none⟩) hg (fun e => e)).trans t1
          have jg : Old g wr := ⟨Nat.lt_of_lt_of_le hg hcr.size⟩
          have hyl := HB.out.2.1 _ (List.mem_of_getElem? hx)
          simp only at hyl
          have hnx := toksB_next hx
          have HC := Lib.hid (And.intro hSl (And.intro hcr hnx))
          clear hSl hcr hnx hcl hx hg
          have hsz1 : (⟨y.text.toArray⟩ : ByteArray).size = y.text.length := by show y.text.toArray.size = _; simp
          have hul : (⟨y.text.toArray⟩ : ByteArray).data.toList = y.text := by simp
          obtain ⟨u, hu⟩ : ∃ u, (⟨y.text.toArray⟩ : ByteArray) = u := ⟨_, rfl⟩
          rw [hu] at hsz1 hul t1
          have HU := Lib.hid hul
          have hus : u.size ≤ 100000 := by omega
          clear hu hul hsz1
          by_cases hk1 : y.kind = 1
          · have y2 : (y.kind == 1) = true := by simp [hk1]
            have z1 : ¬ 9223372036854775807 < S.size + 7 := by omega
            go_wp2_with fail
            go_roundw
            case rel =>
              refine ⟨k + 1, _, by omega, rfl, by go_num, ?_, ?_, HC.out.2.1⟩
              · rw [list_cat, HC.out.1, HC.out.2.2]
                unfold tokB
                rw [if_pos hk1]
                simp
              · rw [ByteArray.size_append]
                show S.size + 7 ≤ _
                omega
            case measure => simp [intOf]; omega
          · have y2 : (y.kind == 1) = false := by simp [hk1]
            have z1 : ¬ 9223372036854775807 < 2 + u.size := by omega
            have z2 : ¬ 9223372036854775807 < 2 + u.size + 1 := by omega
            have z3 : ¬ 9223372036854775807 < S.size + (2 + u.size + 1) := by omega
            go_wp2_with fail
            go_roundw
            case rel =>
              refine ⟨k + 1, _, by omega, rfl, by go_num, ?_, ?_, HC.out.2.1⟩
              · rw [list_cat, list_cat, list_cat, HC.out.1, HC.out.2.2, HU.out]
                unfold tokB
                rw [if_neg hk1]
                simp
              · rw [ByteArray.size_append, ByteArray.size_append, ByteArray.size_append]
                show S.size + (2 + u.size + 1) ≤ _
                omega
            case measure => simp [intOf]; omega
        · obtain rfl : k = N := by omega
          have hS : S.data.toList = blB (full rows) := by
            rw [hSl, ← HT.out.2.1, List.take_length, HB.out.1]
            rfl
          have hSlen : S.data.toList.length = S.size := by rw [Array.length_toList]; rfl
          have x1 : decide (k < k) = false := decide_eq_false (by omega)
          by_cases hbig2 : 65536 < S.size
          · have y3 : decide ((65536 : Int) < (S.size : Int)) = true := decide_eq_true (by omega)
            have HC := Lib.hid hcr
            clear hcr hSl hS hSlen
            go_wp2_with fail
            go_at_call 6
            refine (hal _).mono ?_
            rintro e X4 ⟨rfl, hc4⟩
            go_wp2_with fail
            go_ret
            exact gr_mk rfl (((HX.out.1.trans HT.out.2.2.2 (fun _ _ h => h)).trans HC.out (fun _ _ h => h)).trans hc4 (fun _ _ h => h))
          · have y3 : decide ((65536 : Int) < (S.size : Int)) = false := decide_eq_false (by omega)
            have hpS := HB.out.2.2.1 (by rw [← hS]; omega)
            have hpa2 := fun W => parse_v S W
            rw [hS, hpS] at hpa2
            have HC := Lib.hid hcr
            clear hcr hSl hS hSlen hpS
            go_wp2_with fail
            go_at_call 5
            refine (hpa2 _).mono ?_
            rintro e X3 ⟨hc3, gs3, vs3, rfl, hss3⟩
            obtain ⟨A3, c3, rfl⟩ := own_shape hss3.own
            rw [HLn.out]
            have h2r := HC.out
            have hX13 : Chg Noth X X3 := (HT.out.2.2.2.trans h2r (fun _ _ h => h)).trans hc3 (fun _ _ h => h)
            have hr3 : X3.heap[X.heap.size]? = _ := blk_grow (h2r.trans hc3 (fun _ _ h => h)) HT.out.2.2.1
            have c0 : X3.cell? ⟨X.heap.size, 0, none⟩ = some (.string ⟨b.toArray⟩) := (cell_of_row _ _ _ _ _ _ hr3).trans rfl
            have c1 : X3.cell? ⟨X.heap.size, 1, none⟩ = some (.int .i64 f) := (cell_of_row _ _ _ _ _ _ hr3).trans rfl
            have jr : Old X.heap.size X3 := ⟨(Array.getElem?_eq_some_iff.1 hr3).1⟩
            have hA : SR X3 (.slice A Ln c) vs L := by
              have := HX.out.2.sr.grow hX13
              rwa [HLn.out] at this
            have hB : SR X3 (.slice A3 Ln c3) vs3 L := by
              have := hss3.sr
              rwa [HLn.out] at this
            have y5 : ((⟨b.toArray⟩ : ByteArray).toList == (⟨b.toArray⟩ : ByteArray).toList) = true := by simp
            have HS := Lib.hid (And.intro hA (And.intro hB (And.intro (HX.out.1.trans hX13 (fun _ _ h => h)) HB.out.2.2.2.1)))
            clear h2r hX13 hr3 hA hB hss3 hc3 hpa2
            obtain ⟨bs, hbs⟩ : ∃ t, (⟨b.toArray⟩ : ByteArray) = t := ⟨_, rfl⟩
            rw [hbs] at c0 y5 ⊢
            clear hbs
            go_wp2_with fail
            go_at_call 6
            refine (hal _).mono ?_
            rintro e X4 ⟨rfl, hc4⟩
            obtain ⟨m4, rfl⟩ := muts_ex hc4
            have h34 : Chg Noth X3 m4.w := (chg_alloc (Chg.refl _ _) _).trans hc4 (fun _ _ h => h)
            have hsl := HS.out.2.2.2.1
            have hln := HLn.out
            have hss := sameScript_v A A3 Ln c c3 vs vs3 L m4.w (HS.out.1.grow h34) (HS.out.2.1.grow h34) (by omega) HS.out.2.2.2.2
            have HC4 := Lib.hid (HS.out.2.2.1.trans h34 (fun _ _ h => h))
            clear h34 hc4 hsl hln
            go_wp2_with fail
            go_at_call 8
            with_reducible refine hss.mono ?_
            rintro e X5 ⟨rfl, g5, rfl⟩
            clear hss
            go_wp2_with fail
            go_ret
            exact gr_mk rfl (HC4.out.trans g5.h (fun _ _ h => h))
end Go.Proofs.YtkamjhhaghkdmaaDoor
namespace Go.Proofs.YtkamjhhaghkdmaaDoor.ScriptBlanks
open Go.ChangeShapes Go.WideShapes Go.ChangeAt Go.RowKit Go.Ear Go.Joins
set_option maxHeartbeats 1000000
set_option maxRecDepth 100000
set_option linter.unusedVariables false
set_option linter.unusedSimpArgs false

theorem own : ownKnob Tryd.prog.godebug = none := by kernel_rfl
theorem laidOut : laidOutB Tryd.prog = true := by kernel_rfl

theorem contract (H : Type) (enc : TypeId × Value → H) (W : World) (base : Nat) (args : Array Value) (ds gs : List (DataW H)) (before : List MemPlace)
    (hval : ∀ (j : Nat) t v, Tryd.f3.params[j]? = some t → args[j]? = some v → Value.okWide Tryd.prog W .any base t v)
    (hW : DataW.Whole enc Tryd.prog Tryd.f3.params.toList Rows.scriptBlanksSpec.vars false W args.toList ds gs before) (hL : laidMet Tryd.prog Rows.scriptBlanksRow.laid W) :
    Calls Tryd.prog 3 args W fun e W' => ∃ v, e = .returned v ∧ Rows.scriptBlanksSpec.post enc Tryd.prog Tryd.f3 false true false false W args v W' := by
  have hW' := hW
  obtain ⟨p, q, hA0, hV, rfl, _, _⟩ := hW
  have hA : DataW.TrodAll enc Tryd.prog W 0 (fun _ => true) true Tryd.f3.params.toList args.toList ds p := hA0
  rw [Tryd.params3] at hA hval
  obtain ⟨v0, vs0, d0, ds0, p0, q0, hargs, rfl, rfl, h0, r0⟩ := trodAll_cons hA
  obtain ⟨rfl, rfl, rfl⟩ := trodAll_nil r0
  obtain rfl : args = #[v0] := by cases args; simp_all
  obtain ⟨rfl, rfl⟩ := trodVars_none hV
  obtain ⟨s0, rfl, _, _, ws0⟩ := Go.ChangeMaps.open_string Tryd.underlying9 (hval 0 9 v0 rfl rfl) h0
  refine (blanks_law s0 W).mono fun e W' hg => ?_
  exact law_post laidOut (by kernel_rfl) (by kernel_rfl : Tryd.f3.resultTypes = #[4]) Tryd.underlying4 rfl hW' rfl rfl rfl hg

/-- A world for the witness: the settled one, the listed variables holding what their initialisers lay. -/
noncomputable def laidWorld (os : Os) : World :=
  let w0 := World.holding Tryd.prog os ⟨#[], #[], []⟩
  { w0 with heap := (((((w0.heap.modify 4 fun | .cells _ t frozen => .cells #[.int .u8 0, .int .u8 1, .int .u8 28, .int .u8 2, .int .u8 29, .int .u8 14, .int .u8 24, .int .u8 3, .int .u8 30, .int .u8 22, .int .u8 20, .int .u8 15, .int .u8 25, .int .u8 17, .int .u8 4, .int .u8 8, .int .u8 31, .int .u8 27, .int .u8 13, .int .u8 23, .int .u8 21, .int .u8 19, .int .u8 16, .int .u8 7, .int .u8 26, .int .u8 12, .int .u8 18, .int .u8 6, .int .u8 11, .int .u8 5, .int .u8 10, .int .u8 9] t frozen | o => o).modify 5 fun | .cells _ t frozen => .cells #[.int .u8 0, .int .u8 1, .int .u8 56, .int .u8 2, .int .u8 57, .int .u8 49, .int .u8 28, .int .u8 3, .int .u8 61, .int .u8 58, .int .u8 42, .int .u8 50, .int .u8 38, .int .u8 29, .int .u8 17, .int .u8 4, .int .u8 62, .int .u8 47, .int .u8 59, .int .u8 36, .int .u8 45, .int .u8 43, .int .u8 51, .int .u8 22, .int .u8 53, .int .u8 39, .int .u8 33, .int .u8 30, .int .u8 24, .int .u8 18, .int .u8 12, .int .u8 5, .int .u8 63, .int .u8 55, .int .u8 48, .int .u8 27, .int .u8 60, .int .u8 41, .int .u8 37, .int .u8 16, .int .u8 46, .int .u8 35, .int .u8 44, .int .u8 21, .int .u8 52, .int .u8 32, .int .u8 23, .int .u8 11, .int .u8 54, .int .u8 26, .int .u8 40, .int .u8 15, .int .u8 34, .int .u8 20, .int .u8 31, .int .u8 10, .int .u8 25, .int .u8 14, .int .u8 19, .int .u8 9, .int .u8 13, .int .u8 8, .int .u8 7, .int .u8 6] t frozen | o => o).modify 3 fun | .cells _ t frozen => .cells #[.int .u64 1, .int .u64 10, .int .u64 100, .int .u64 1000, .int .u64 10000, .int .u64 100000, .int .u64 1000000, .int .u64 10000000, .int .u64 100000000, .int .u64 1000000000, .int .u64 10000000000, .int .u64 100000000000, .int .u64 1000000000000, .int .u64 10000000000000, .int .u64 100000000000000, .int .u64 1000000000000000, .int .u64 10000000000000000, .int .u64 100000000000000000, .int .u64 1000000000000000000, .int .u64 10000000000000000000] t frozen | o => o).modify 1 fun | .cells _ t frozen => .cells #[.int .u8 128, .int .u8 191, .int .u8 160, .int .u8 191, .int .u8 128, .int .u8 159, .int .u8 144, .int .u8 191, .int .u8 128, .int .u8 143, .int .u8 0, .int .u8 0, .int .u8 0, .int .u8 0, .int .u8 0, .int .u8 0, .int .u8 0, .int .u8 0, .int .u8 0, .int .u8 0, .int .u8 0, .int .u8 0, .int .u8 0, .int .u8 0, .int .u8 0, .int .u8 0, .int .u8 0, .int .u8 0, .int .u8 0, .int .u8 0, .int .u8 0, .int .u8 0] t frozen | o => o).modify 0 fun | .cells _ t frozen => .cells #[.int .u8 240, .int .u8 240, .int .u8 240, .int .u8 240, .int .u8 240, .int .u8 240, .int .u8 240, .int .u8 240, .int .u8 240, .int .u8 240, .int .u8 240, .int .u8 240, .int .u8 240, .int .u8 240, .int .u8 240, .int .u8 240, .int .u8 240, .int .u8 240, .int .u8 240, .int .u8 240, .int .u8 240, .int .u8 240, .int .u8 240, .int .u8 240, .int .u8 240, .int .u8 240, .int .u8 240, .int .u8 240, .int .u8 240, .int .u8 240, .int .u8 240, .int .u8 240, .int .u8 240, .int .u8 240, .int .u8 240, .int .u8 240, .int .u8 240, .int .u8 240, .int .u8 240, .int .u8 240, .int .u8 240, .int .u8 240, .int .u8 240, .int .u8 240, .int .u8 240, .int .u8 240, .int .u8 240, .int .u8 240, .int .u8 240, .int .u8 240, .int .u8 240, .int .u8 240, .int .u8 240, .int .u8 240, .int .u8 240, .int .u8 240, .int .u8 240, .int .u8 240, .int .u8 240, .int .u8 240, .int .u8 240, .int .u8 240, .int .u8 240, .int .u8 240, .int .u8 240, .int .u8 240, .int .u8 240, .int .u8 240, .int .u8 240, .int .u8 240, .int .u8 240, .int .u8 240, .int .u8 240, .int .u8 240, .int .u8 240, .int .u8 240, .int .u8 240, .int .u8 240, .int .u8 240, .int .u8 240, .int .u8 240, .int .u8 240, .int .u8 240, .int .u8 240, .int .u8 240, .int .u8 240, .int .u8 240, .int .u8 240, .int .u8 240, .int .u8 240, .int .u8 240, .int .u8 240, .int .u8 240, .int .u8 240, .int .u8 240, .int .u8 240, .int .u8 240, .int .u8 240, .int .u8 240, .int .u8 240, .int .u8 240, .int .u8 240, .int .u8 240, .int .u8 240, .int .u8 240, .int .u8 240, .int .u8 240, .int .u8 240, .int .u8 240, .int .u8 240, .int .u8 240, .int .u8 240, .int .u8 240, .int .u8 240, .int .u8 240, .int .u8 240, .int .u8 240, .int .u8 240, .int .u8 240, .int .u8 240, .int .u8 240, .int .u8 240, .int .u8 240, .int .u8 240, .int .u8 240, .int .u8 240, .int .u8 240, .int .u8 240, .int .u8 241, .int .u8 241, .int .u8 241, .int .u8 241, .int .u8 241, .int .u8 241, .int .u8 241, .int .u8 241, .int .u8 241, .int .u8 241, .int .u8 241, .int .u8 241, .int .u8 241, .int .u8 241, .int .u8 241, .int .u8 241, .int .u8 241, .int .u8 241, .int .u8 241, .int .u8 241, .int .u8 241, .int .u8 241, .int .u8 241, .int .u8 241, .int .u8 241, .int .u8 241, .int .u8 241, .int .u8 241, .int .u8 241, .int .u8 241, .int .u8 241, .int .u8 241, .int .u8 241, .int .u8 241, .int .u8 241, .int .u8 241, .int .u8 241, .int .u8 241, .int .u8 241, .int .u8 241, .int .u8 241, .int .u8 241, .int .u8 241, .int .u8 241, .int .u8 241, .int .u8 241, .int .u8 241, .int .u8 241, .int .u8 241, .int .u8 241, .int .u8 241, .int .u8 241, .int .u8 241, .int .u8 241, .int .u8 241, .int .u8 241, .int .u8 241, .int .u8 241, .int .u8 241, .int .u8 241, .int .u8 241, .int .u8 241, .int .u8 241, .int .u8 241, .int .u8 241, .int .u8 241, .int .u8 2, .int .u8 2, .int .u8 2, .int .u8 2, .int .u8 2, .int .u8 2, .int .u8 2, .int .u8 2, .int .u8 2, .int .u8 2, .int .u8 2, .int .u8 2, .int .u8 2, .int .u8 2, .int .u8 2, .int .u8 2, .int .u8 2, .int .u8 2, .int .u8 2, .int .u8 2, .int .u8 2, .int .u8 2, .int .u8 2, .int .u8 2, .int .u8 2, .int .u8 2, .int .u8 2, .int .u8 2, .int .u8 2, .int .u8 2, .int .u8 19, .int .u8 3, .int .u8 3, .int .u8 3, .int .u8 3, .int .u8 3, .int .u8 3, .int .u8 3, .int .u8 3, .int .u8 3, .int .u8 3, .int .u8 3, .int .u8 3, .int .u8 35, .int .u8 3, .int .u8 3, .int .u8 52, .int .u8 4, .int .u8 4, .int .u8 4, .int .u8 68, .int .u8 241, .int .u8 241, .int .u8 241, .int .u8 241, .int .u8 241, .int .u8 241, .int .u8 241, .int .u8 241, .int .u8 241, .int .u8 241, .int .u8 241] t frozen | o => o) }
theorem laid_met (os : Os) : laidMet Tryd.prog Rows.scriptBlanksRow.laid ((laidWorld os).forCall (fun _ _ => 0) ⟨#[], #[.string ⟨#[]⟩], []⟩).memory :=
  laidMet_of_run' 8 (by kernel_rfl) (by kernel_rfl)
theorem reads (os : Os) {H : Type} (enc : TypeId × Value → H) : ∃ places, DataW.whole enc Tryd.prog ((laidWorld os).forCall (fun _ _ => 0) ⟨#[], #[.string ⟨#[]⟩], []⟩).memory Tryd.f3.params.toList Rows.scriptBlanksSpec.vars false (#[.string ⟨#[]⟩] : Array Value).toList 8 = some ([.lit (.string [])], [], places) :=
  ⟨[], by kernel_rfl⟩

theorem lifted (os : Os) (started : os.Started) (H : Type) (enc : TypeId × Value → H) (F : Stop.Interp) :
    ReturnsInHanded {} Tryd.checked os 3 .any ((OpenSpec.ofChange Rows.scriptBlanksSpec).preRow enc Tryd.prog Tryd.f3 Rows.scriptBlanksRow.domain false Rows.scriptBlanksRow.laid) (((OpenSpec.ofChange Rows.scriptBlanksSpec).at F).post enc Tryd.prog Tryd.f3 false true false false) := by
  obtain ⟨places, hx⟩ := reads os enc
  refine returnsInHanded_of_row (C := Tryd.checked) (s := OpenSpec.ofChange Rows.scriptBlanksSpec) own started (by kernel_rfl) Tryd.func3
    (witness_row_at (enc := enc) (C := Tryd.checked) false (laidWorld os) #[.string ⟨#[]⟩] rfl (by kernel_rfl) (by kernel_rfl) (by kernel_rfl)
      (OpenSpec.preRow_of_cond 8 hx (by kernel_rfl) (fun k hk => by cases hk) (by kernel_rfl) (laid_met os))) ?_
  intro W base args ds gs before hval hW _ _ _ hL _ _
  exact contract H enc W base args ds gs before hval hW hL

theorem said : Rows.ScriptBlanksSaid :=
  OpenClaim.holds_of_cond 3 Tryd.f3 rfl rfl rfl rfl rfl rfl rfl ⟨rfl, rfl, rfl, rfl, rfl⟩ rfl rfl rfl rfl rfl (by kernel_rfl) Tryd.func3 (by kernel_rfl)
    (of_decide_eq_true (by kernel_rfl)) (by unfold Func.isWrapper; first | (rw [if_pos (by decide +kernel)]; kernel_rfl) | (rw [if_neg (by decide +kernel)]; exact ⟨rfl, rfl⟩))
    (fun os started H enc _ F => by rw [OpenClaim.pre_eq_preRow]; exact lifted os started H enc F)

theorem plain (f : FuncId) (fn : Func) (hf : Tryd.pinned.checked.prog.funcNamed "earshot/earshotlaw20.ScriptBlanks" = some f) (hfn : Tryd.pinned.checked.prog.funcs[f]? = some fn) :
    true = Tryd.pinned.checked.prog.looks [] ∧ ∀ (j : Nat) t, fn.params[j]? = some t → Tryd.pinned.checked.prog.wantsStandIn t = false := by
  obtain rfl : f = 3 := Option.some.inj ((show Tryd.prog.funcNamed "earshot/earshotlaw20.ScriptBlanks" = some 3 by kernel_rfl).symm.trans hf) |>.symm
  obtain rfl : fn = Tryd.f3 := (Option.some.inj (Tryd.func3.symm.trans hfn)).symm
  refine ⟨by kernel_rfl, fun j t ht => ?_⟩
  rw [Tryd.params3] at ht
  have hm : t ∈ [9] := by simpa using Array.mem_of_getElem? ht
  have hall : ([9].all fun u => !Tryd.prog.wantsStandIn u) = true := by kernel_rfl
  exact (show Tryd.prog.wantsStandIn t = false by simpa using List.all_eq_true.1 hall t hm)

theorem scriptBlanks_holds : Rows.ScriptBlanksCardSaid :=
  Claim7.holds_tied_plain_at .later [] _ _ _ _ said (fun _ h => by cases h) (by kernel_rfl) (fun _ h => by cases h) scriptBlanks_row_tie rfl ⟨rfl, rfl⟩ (by kernel_rfl) rfl plain (by kernel_rfl)
end Go.Proofs.YtkamjhhaghkdmaaDoor.ScriptBlanks
