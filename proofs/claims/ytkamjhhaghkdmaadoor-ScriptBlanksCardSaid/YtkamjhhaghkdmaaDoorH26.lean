/- The escapes of a quoted text: the loop over a rune's number. -/
import Derived.Test.YtkamjhhaghkdmaaDoorH25
namespace Go.Proofs.YtkamjhhaghkdmaaDoor
open Go.RowKit Go.Ear Go.Proofs.YtkamjhhaghkdmaaDoorW.PrintWords Go.Proofs.YtkamjhhaghkdmaaDoor.PScriptLines
set_option maxHeartbeats 4000000
set_option maxRecDepth 100000
set_option linter.unusedSimpArgs false
set_option linter.unusedVariables false
/-- What is known where the loop stands ahead of byte j. -/
theorem esc_u3 (s : ByteArray) (w : World) (hc : atB s 1 = 117) (h2 : atB s 2 = 123) (c3' : Nat) (v3 : Int) (h3 : atB s 3 = c3') (e3 : hexV c3' = v3) (n3 : ¬ v3 < 0) : Calls Tryd.prog 41 #[.string s] w (Gc (escRes s) w) := by
  have x3 : decide (0 ≤ v3) = true := decide_eq_true (by omega)
  obtain ⟨m3, rfl⟩ := Int.eq_ofNat_of_zero_le (show 0 ≤ v3 by omega)
  have b3 := hexV_bound c3'
  rw [e3] at b3
  have hor : bits .or .i64 0 (m3 : Int) = (m3 : Int) := by
    have := or16 0 m3 (by omega) (by omega)
    rw [show (((0 : Nat) : Int)) * 16 = 0 from rfl] at this
    rw [this, Nat.zero_mul, Nat.zero_add]
  obtain ⟨V, E, HV⟩ : ∃ V E, hexF s 5 (3 + 1) m3 = (V, E) := ⟨_, _, rfl⟩
  have h6 : hexF s 6 3 0 = (V, E) := by
    rw [hexF, h3, e3, if_pos (by omega), ← HV]
    simp
  have HE : Hid (esc s 0 = if 3 < E ∧ atB s E = 125 ∧ V ≤ 1114111 ∧ ¬ (55296 ≤ V ∧ V ≤ 57343) then some (Lib.encodeRune V, E + 1) else none) := Lib.hid (by
    unfold esc
    simp [hc, h2, h6])
  have hm3 : m3 < 16 := by omega
  have HB := Lib.hid (And.intro hm3 HV)
  clear h6 hm3 b3
  have A2 : Hid (atB s 2 = 123) := Lib.hid h2
  have A3 : Hid (atB s 3 = c3') := Lib.hid h3
  have V3 : Hid (hexV c3' = (m3 : Int)) := Lib.hid e3
  have l3 : Hid (c3' < 256) := Lib.hid (by rw [← h3]; exact atB_lt s 3)
  clear h2 h3 e3 n3 HV
  have hmf : ∀ (fn : Fn) (first cap : Array Value) (w : World), (Instr.makeFunc fn first cap).run Tryd.prog w = .ok (.func fn first cap) w := fun _ _ _ _ => rfl
  obtain ⟨X, hX⟩ : ∃ X, w.alloc (.cells #[.string s] 9) = X := ⟨_, rfl⟩
  have hcX : Chg Noth w X := by rw [← hX]; exact chg_alloc (Chg.refl _ _) _
  have hcell : X.cell? ⟨w.heap.size, 0, none⟩ = some (.string s) := by rw [← hX]; simp [go_sem]
  have jb : Old w.heap.size X := ⟨by rw [← hX]; simp⟩
  have h1 := atc_v s w.heap.size 1 X hcell jb
  rw [hc, show ((117 : Nat) : Int) = 117 from rfl, show ((1 : Nat) : Int) = 1 from rfl] at h1
  clear hc
  go_enter Tryd.func41, Tryd.ntmps41
  go_wp2
  refine wp_scope_chain 9 fun C hC => ?_
  have HC := Lib.hid hC
  clear hC
  try rw [hX]
  have HX := Lib.hid hX
  clear hX
  have fin : ∀ (f i j v c' : Nat) (x : Int) (X0 : World) (u8 u51 u52 u53 u54 u55 u56 u57 u58 u59 u60 u61 u62 u63 u64 u65 u66 : Value), wrap64 ((i : Int) + 1) = (j : Int) → atB s j = c' → hexV c' = x → 3 < j → j ≤ 9 → v = V → j = E → (x < 0 ∨ 9 ≤ j) → v < 16777216 → X0.cell? ⟨w.heap.size, 0, none⟩ = some (.string s) → Old w.heap.size X0 → Chg Noth X X0 →
      ∃ rest, findLabel C 3 = some rest ∧ rest.wp Tryd.prog (Exit.chain Tryd.prog C (bodyPost Tryd.prog Tryd.f41 (Gc (escRes s) w)) (f + 2)) (⟨#[.string s, .pointer (some ⟨w.heap.size, 0, none⟩), .string ⟨#[]⟩, .int .i64 0, .bool false, .func (.func 56) #[] #[.pointer (some ⟨w.heap.size, 0, none⟩)], .int .i64 (v : Int), .int .i64 (i : Int), u8,
      .func (.func 56) #[] #[.pointer (some ⟨w.heap.size, 0, none⟩)], .func (.func 56) #[] #[.pointer (some ⟨w.heap.size, 0, none⟩)], .int .u8 117, .bool false, .bool false, .bool false, undef, undef,
      .bool false, .bool false, .bool false, .bool false, .bool false, .bool false, .bool false, .bool false, .bool true, .bool true, undef, undef, undef, undef, undef,
      undef, undef, undef, undef, undef, undef, undef, undef, undef, undef, undef, undef, undef, undef, undef, undef, .func (.func 56) #[] #[.pointer (some ⟨w.heap.size, 0, none⟩)],
      .int .u8 123, .bool false, u51, u52, u53, u54, u55, u56, u57, u58, u59, u60, u61, u62, u63, u64, u65, u66, undef,
      undef, undef, undef, undef, undef, undef, undef, undef, undef, undef, undef, undef, undef, undef, undef, undef, undef, undef, undef, undef, undef, undef, undef, undef], []⟩ : Act) X0 := by
    clear hor x3 A3 V3 l3 HB A2 h1
    intro f i j v c' x X0 u8 u51 u52 u53 u54 u55 u56 u57 u58 u59 u60 u61 u62 u63 u64 u65 u66 hij hcj hvj h3j hj9 hV hE hxj hvb q0 j0 hc0
    subst hV hE
    have lc : Hid (c' < 256) := Lib.hid (by rw [← hcj]; exact atB_lt s j)
    have y3 : ((j : Int) == 3) = false := by rw [beq_eq_false_iff_ne]; omega
    have hx0 : (decide (0 ≤ x) = true ∧ decide ((j : Int) < 9) = false) ∨ decide (0 ≤ x) = false := by
      by_cases hx : 0 ≤ x
      · exact .inl ⟨decide_eq_true hx, decide_eq_false (by omega)⟩
      · exact .inr (decide_eq_false hx)
    by_cases h125 : c' = 125
    · subst h125
      have hx : x = -1 := by rw [← hvj]; rfl
      subst hx
      have AJ : Hid (atB s j = 125) := Lib.hid hcj
      have VJ : Hid (hexV 125 = -1) := Lib.hid rfl
      by_cases v1 : 1114111 < v
      · have HN : Hid (escRes s = .tuple #[.string ⟨#[]⟩, .int .i64 0, .bool false]) := Lib.hid (by unfold escRes; rw [HE.out, if_neg (by omega)])
        have w1 : decide (1114111 < (v : Int)) = true := decide_eq_true (by omega)
        clear hcj hvj h3j hj9 hxj hvb hx0 v1
        refine ⟨_, (congrArg (findLabel · 3) HC.out).trans rfl, ?_⟩
        have a1 := atc_v s w.heap.size j X0 q0 j0
        rw [AJ.out, show ((125 : Nat) : Int) = 125 from rfl] at a1
        go_wp2_with fail
        go_at_call 56
        refine (a1).mono ?_
        rintro e X1 ⟨rfl, c1⟩
        obtain ⟨q1, j1⟩ := keepc c1 q0 j0
        clear a1
        have d2 := digit_v 125 lc.out X1
        rw [show ((125 : Nat) : Int) = 125 from rfl] at d2
        rw [VJ.out] at d2
        go_wp2_with fail
        go_at_call 57
        refine (d2).mono ?_
        rintro e X2 ⟨rfl, c2⟩
        obtain ⟨q2, j2⟩ := keepc c2 q1 j1
        clear d2
        have a3 := atc_v s w.heap.size j X2 q2 j2
        rw [AJ.out, show ((125 : Nat) : Int) = 125 from rfl] at a3
        go_wp2_with fail
        go_at_call 56
        refine (a3).mono ?_
        rintro e X3 ⟨rfl, c3⟩
        obtain ⟨q3, j3⟩ := keepc c3 q2 j2
        clear a3
        go_wp2_with fail
        refine wp_goto ?_
        show Exit.chain _ _ _ (f + 1 + 1) (.goto 2) _ _
        simp only [Exit.chain]
        refine ⟨_, (congrArg (findLabel · 2) HC.out).trans rfl, ?_⟩
        go_wp2
        rw [chain_ret]
        refine bodyPost_ret (v := .tuple #[.string ⟨#[]⟩, .int .i64 0, .bool false]) (by simp [results, Tryd.results41, go_sem, *]) rfl ?_
        rw [HN.out]
        exact ⟨rfl, hcX.trans (((hc0.trans c1 (fun _ _ e => e)).trans c2 (fun _ _ e => e)).trans c3 (fun _ _ e => e)) (fun _ _ e => e)⟩
      have w1 : decide (1114111 < (v : Int)) = false := decide_eq_false (by omega)
      by_cases v2 : 55296 ≤ v ∧ v ≤ 57343
      · have HN : Hid (escRes s = .tuple #[.string ⟨#[]⟩, .int .i64 0, .bool false]) := Lib.hid (by unfold escRes; rw [HE.out, if_neg (by omega)])
        have w2 : decide (55296 ≤ (v : Int)) = true := decide_eq_true (by omega)
        have w3 : decide ((v : Int) ≤ 57343) = true := decide_eq_true (by omega)
        clear hcj hvj h3j hj9 hxj hvb hx0 v1 v2
        refine ⟨_, (congrArg (findLabel · 3) HC.out).trans rfl, ?_⟩
        have a1 := atc_v s w.heap.size j X0 q0 j0
        rw [AJ.out, show ((125 : Nat) : Int) = 125 from rfl] at a1
        go_wp2_with fail
        go_at_call 56
        refine (a1).mono ?_
        rintro e X1 ⟨rfl, c1⟩
        obtain ⟨q1, j1⟩ := keepc c1 q0 j0
        clear a1
        have d2 := digit_v 125 lc.out X1
        rw [show ((125 : Nat) : Int) = 125 from rfl] at d2
        rw [VJ.out] at d2
        go_wp2_with fail
        go_at_call 57
        refine (d2).mono ?_
        rintro e X2 ⟨rfl, c2⟩
        obtain ⟨q2, j2⟩ := keepc c2 q1 j1
        clear d2
        have a3 := atc_v s w.heap.size j X2 q2 j2
        rw [AJ.out, show ((125 : Nat) : Int) = 125 from rfl] at a3
        go_wp2_with fail
        go_at_call 56
        refine (a3).mono ?_
        rintro e X3 ⟨rfl, c3⟩
        obtain ⟨q3, j3⟩ := keepc c3 q2 j2
        clear a3
        go_wp2_with fail
        refine wp_goto ?_
        show Exit.chain _ _ _ (f + 1 + 1) (.goto 2) _ _
        simp only [Exit.chain]
        refine ⟨_, (congrArg (findLabel · 2) HC.out).trans rfl, ?_⟩
        go_wp2
        rw [chain_ret]
        refine bodyPost_ret (v := .tuple #[.string ⟨#[]⟩, .int .i64 0, .bool false]) (by simp [results, Tryd.results41, go_sem, *]) rfl ?_
        rw [HN.out]
        exact ⟨rfl, hcX.trans (((hc0.trans c1 (fun _ _ e => e)).trans c2 (fun _ _ e => e)).trans c3 (fun _ _ e => e)) (fun _ _ e => e)⟩
      have HN : Hid (escRes s = .tuple #[.string ⟨(Lib.encodeRune (v : Int)).toArray⟩, .int .i64 ((j + 1 : Nat) : Int), .bool true]) := Lib.hid (by unfold escRes; rw [HE.out, if_pos ⟨h3j, hcj, by omega, v2⟩])
      have hen := encode_rune v (by omega) (by omega) (by omega)
      have hjk : wrap64 ((j : Int) + 1) = ((j + 1 : Nat) : Int) := by rw [wid] <;> omega
      have h32 : wrap32 (v : Int) = (v : Int) := (by unfold wrap32; omega)
      have hw : (decide (55296 ≤ (v : Int)) = true ∧ decide ((v : Int) ≤ 57343) = false) ∨ decide (55296 ≤ (v : Int)) = false := by
        by_cases a : 55296 ≤ v
        · exact .inl ⟨decide_eq_true (by omega), decide_eq_false (by omega)⟩
        · exact .inr (decide_eq_false (by omega))
      clear hcj hvj h3j hj9 hxj hvb hx0 v1 v2
      rcases hw with ⟨w2, w3⟩ | w2
      all_goals
        refine ⟨_, (congrArg (findLabel · 3) HC.out).trans rfl, ?_⟩
        have a1 := atc_v s w.heap.size j X0 q0 j0
        rw [AJ.out, show ((125 : Nat) : Int) = 125 from rfl] at a1
        go_wp2_with fail
        go_at_call 56
        refine (a1).mono ?_
        rintro e X1 ⟨rfl, c1⟩
        obtain ⟨q1, j1⟩ := keepc c1 q0 j0
        clear a1
        have d2 := digit_v 125 lc.out X1
        rw [show ((125 : Nat) : Int) = 125 from rfl] at d2
        rw [VJ.out] at d2
        go_wp2_with fail
        go_at_call 57
        refine (d2).mono ?_
        rintro e X2 ⟨rfl, c2⟩
        obtain ⟨q2, j2⟩ := keepc c2 q1 j1
        clear d2
        have a3 := atc_v s w.heap.size j X2 q2 j2
        rw [AJ.out, show ((125 : Nat) : Int) = 125 from rfl] at a3
        go_wp2_with fail
        go_at_call 56
        refine (a3).mono ?_
        rintro e X3 ⟨rfl, c3⟩
        obtain ⟨q3, j3⟩ := keepc c3 q2 j2
        clear a3
        go_wp2_with fail
        rw [chain_ret]
        refine bodyPost_ret (v := .tuple #[.string ⟨(Lib.encodeRune (v : Int)).toArray⟩, .int .i64 ((j + 1 : Nat) : Int), .bool true]) (by simp [results, Tryd.results41, go_sem, *]) rfl ?_
        rw [HN.out]
        exact ⟨rfl, hcX.trans (((hc0.trans c1 (fun _ _ e => e)).trans c2 (fun _ _ e => e)).trans c3 (fun _ _ e => e)) (fun _ _ e => e)⟩
    · have HN : Hid (escRes s = .tuple #[.string ⟨#[]⟩, .int .i64 0, .bool false]) := Lib.hid (by unfold escRes; rw [HE.out, if_neg (fun e => h125 (hcj.symm.trans e.2.1))])
      have AJ : Hid (atB s j = c') := Lib.hid hcj
      have VJ : Hid (hexV c' = x) := Lib.hid hvj
      have z : ((c' : Int) != 125) = true := by rw [bne_iff_ne]; exact fun e => h125 (by exact_mod_cast e)
      clear hcj hvj h3j hj9 hxj hvb h125
      rcases hx0 with ⟨x1, x2⟩ | x1
      all_goals
        refine ⟨_, (congrArg (findLabel · 3) HC.out).trans rfl, ?_⟩
        have a1 := atc_v s w.heap.size j X0 q0 j0
        rw [AJ.out] at a1
        go_wp2_with fail
        go_at_call 56
        refine (a1).mono ?_
        rintro e X1 ⟨rfl, c1⟩
        obtain ⟨q1, j1⟩ := keepc c1 q0 j0
        clear a1
        have d2 := digit_v c' lc.out X1
        rw [VJ.out] at d2
        go_wp2_with fail
        go_at_call 57
        refine (d2).mono ?_
        rintro e X2 ⟨rfl, c2⟩
        obtain ⟨q2, j2⟩ := keepc c2 q1 j1
        clear d2
        have a3 := atc_v s w.heap.size j X2 q2 j2
        rw [AJ.out] at a3
        go_wp2_with fail
        go_at_call 56
        refine (a3).mono ?_
        rintro e X3 ⟨rfl, c3⟩
        obtain ⟨q3, j3⟩ := keepc c3 q2 j2
        clear a3
        go_wp2_with fail
        refine wp_goto ?_
        show Exit.chain _ _ _ (f + 1 + 1) (.goto 2) _ _
        simp only [Exit.chain]
        refine ⟨_, (congrArg (findLabel · 2) HC.out).trans rfl, ?_⟩
        go_wp2
        rw [chain_ret]
        refine bodyPost_ret (v := .tuple #[.string ⟨#[]⟩, .int .i64 0, .bool false]) (by simp [results, Tryd.results41, go_sem, *]) rfl ?_
        rw [HN.out]
        exact ⟨rfl, hcX.trans (((hc0.trans c1 (fun _ _ e => e)).trans c2 (fun _ _ e => e)).trans c3 (fun _ _ e => e)) (fun _ _ e => e)⟩
  have key : ∀ (f i v : Nat) (X0 : World) (u8 u51 u52 u53 u54 u55 u56 u57 u58 u59 u60 u61 u62 u63 u64 u65 u66 : Value), i + f = 8 → 3 ≤ i → v < 16 ^ (i - 2) → hexF s f (i + 1) v = (V, E) → X0.cell? ⟨w.heap.size, 0, none⟩ = some (.string s) → Old w.heap.size X0 → Chg Noth X X0 →
      ∃ rest, findLabel C 3 = some rest ∧ rest.wp Tryd.prog (Exit.chain Tryd.prog C (bodyPost Tryd.prog Tryd.f41 (Gc (escRes s) w)) (f + 2)) (⟨#[.string s, .pointer (some ⟨w.heap.size, 0, none⟩), .string ⟨#[]⟩, .int .i64 0, .bool false, .func (.func 56) #[] #[.pointer (some ⟨w.heap.size, 0, none⟩)], .int .i64 (v : Int), .int .i64 (i : Int), u8,
      .func (.func 56) #[] #[.pointer (some ⟨w.heap.size, 0, none⟩)], .func (.func 56) #[] #[.pointer (some ⟨w.heap.size, 0, none⟩)], .int .u8 117, .bool false, .bool false, .bool false, undef, undef,
      .bool false, .bool false, .bool false, .bool false, .bool false, .bool false, .bool false, .bool false, .bool true, .bool true, undef, undef, undef, undef, undef,
      undef, undef, undef, undef, undef, undef, undef, undef, undef, undef, undef, undef, undef, undef, undef, undef, .func (.func 56) #[] #[.pointer (some ⟨w.heap.size, 0, none⟩)],
      .int .u8 123, .bool false, u51, u52, u53, u54, u55, u56, u57, u58, u59, u60, u61, u62, u63, u64, u65, u66, undef,
      undef, undef, undef, undef, undef, undef, undef, undef, undef, undef, undef, undef, undef, undef, undef, undef, undef, undef, undef, undef, undef, undef, undef, undef], []⟩ : Act) X0 := by
    clear hor x3 A3 V3 l3 HB A2 h1
    intro f
    induction f with
    | zero =>
      intro i v X0 u8 u51 u52 u53 u54 u55 u56 u57 u58 u59 u60 u61 u62 u63 u64 u65 u66 hi h3i hv hh q0 j0 hc0
      obtain rfl : i = 8 := by omega
      simp only [hexF, Prod.mk.injEq] at hh
      exact fin 0 8 9 v _ _ X0 u8 u51 u52 u53 u54 u55 u56 u57 u58 u59 u60 u61 u62 u63 u64 u65 u66 (by rw [wid] <;> omega) rfl rfl (by omega) (by omega) hh.1 hh.2 (.inr (by omega)) (by omega) q0 j0 hc0
    | succ f ih =>
      intro i v X0 u8 u51 u52 u53 u54 u55 u56 u57 u58 u59 u60 u61 u62 u63 u64 u65 u66 hi h3i hv hh q0 j0 hc0
      obtain ⟨j, hj⟩ : ∃ j, i + 1 = j := ⟨_, rfl⟩
      obtain ⟨c', hcj⟩ : ∃ c', atB s j = c' := ⟨_, rfl⟩
      obtain ⟨x, hvj⟩ : ∃ x, hexV c' = x := ⟨_, rfl⟩
      have AJ : Hid (atB s j = c') := Lib.hid hcj
      have VJ : Hid (hexV c' = x) := Lib.hid hvj
      have lc : Hid (c' < 256) := Lib.hid (by rw [← hcj]; exact atB_lt s j)
      have hij : wrap64 ((i : Int) + 1) = (j : Int) := by rw [wid] <;> omega
      rw [hj] at hh
      simp only [hexF] at hh
      rw [hcj, hvj] at hh
      have bx := hexV_bound c'
      rw [hvj] at bx
      clear hcj hvj
      by_cases hx : 0 ≤ x
      · rw [if_pos hx] at hh
        obtain ⟨m, rfl⟩ := Int.eq_ofNat_of_zero_le hx
        have x1 : decide (0 ≤ (m : Int)) = true := decide_eq_true hx
        have x2 : decide ((j : Int) < 9) = true := decide_eq_true (by omega)
        have hp : 16 ^ (i - 2) ≤ 16 ^ 5 := Nat.pow_le_pow_right (by omega) (by omega)
        have hsh : wrap64 ((v : Int) * 16) = (v : Int) * 16 := by rw [wid] <;> omega
        obtain ⟨v2, hv2⟩ : ∃ v2, v * 16 + m = v2 := ⟨_, rfl⟩
        have hor := or16 v m (by omega) (by omega)
        rw [hv2] at hor
        have hvb : v2 < 16 ^ (j - 2) := by
          rw [← hj, show i + 1 - 2 = (i - 2) + 1 by omega, Nat.pow_succ]
          omega
        simp only [Int.toNat_natCast] at hh
        rw [hv2] at hh
        have HI := Lib.hid (And.intro (show j + f = 8 by omega) (And.intro (show 3 ≤ j by omega) (And.intro hvb hh)))
        clear hi h3i hv hh hx bx hp hv2 hvb hj
        refine ⟨_, (congrArg (findLabel · 3) HC.out).trans rfl, ?_⟩
        have a1 := atc_v s w.heap.size j X0 q0 j0
        rw [AJ.out] at a1
        go_wp2_with fail
        go_at_call 56
        refine (a1).mono ?_
        rintro e X1 ⟨rfl, c1⟩
        obtain ⟨q1, j1⟩ := keepc c1 q0 j0
        clear a1
        have d2 := digit_v c' lc.out X1
        rw [VJ.out] at d2
        go_wp2_with fail
        go_at_call 57
        refine (d2).mono ?_
        rintro e X2 ⟨rfl, c2⟩
        obtain ⟨q2, j2⟩ := keepc c2 q1 j1
        clear d2
        go_wp2_with fail
        refine wp_goto ?_
        show Exit.chain _ _ _ (f + 2 + 1) (.goto 3) _ _
        simp only [Exit.chain]
        exact ih j v2 X2 _ _ _ _ _ _ _ _ _ _ _ _ _ _ _ _ _ HI.out.1 HI.out.2.1 HI.out.2.2.1 HI.out.2.2.2 q2 j2 ((hc0.trans c1 (fun _ _ e => e)).trans c2 (fun _ _ e => e))
      · rw [if_neg hx] at hh
        simp only [Prod.mk.injEq] at hh
        have hp : 16 ^ (i - 2) ≤ 16 ^ 6 := Nat.pow_le_pow_right (by omega) (by omega)
        exact fin (f + 1) i j v c' x X0 u8 u51 u52 u53 u54 u55 u56 u57 u58 u59 u60 u61 u62 u63 u64 u65 u66 hij AJ.out VJ.out (by omega) (by omega) hh.1 hh.2 (.inl (by omega)) (by omega) q0 j0 hc0
  go_wp2_with fail
  go_at_call 56
  refine h1.mono ?_
  rintro e X1 ⟨rfl, c1⟩
  obtain ⟨q1, j1⟩ := keepc c1 hcell jb
  clear h1
  go_wp2_with fail
  refine wp_goto ?_
  show Exit.chain _ _ _ 9 (.goto 1) _ _
  simp only [Exit.chain]
  refine ⟨_, (congrArg (findLabel · 1) HC.out).trans rfl, ?_⟩
  have a2 := atc_v s w.heap.size 2 X1 q1 j1
  rw [A2.out, show ((2 : Nat) : Int) = 2 from rfl, show ((123 : Nat) : Int) = 123 from rfl] at a2
  go_wp2_with fail
  go_at_call 56
  refine (a2).mono ?_
  rintro e X2 ⟨rfl, c2⟩
  obtain ⟨q2, j2⟩ := keepc c2 q1 j1
  clear a2
  go_wp2_with fail
  refine wp_label ?_
  have a3 := atc_v s w.heap.size 3 X2 q2 j2
  rw [A3.out, show ((3 : Nat) : Int) = 3 from rfl] at a3
  go_wp2_with fail
  go_at_call 56
  refine (a3).mono ?_
  rintro e X3 ⟨rfl, c3⟩
  obtain ⟨q3, j3⟩ := keepc c3 q2 j2
  clear a3
  have d4 := digit_v c3' l3.out X3
  rw [V3.out] at d4
  go_wp2_with fail
  go_at_call 57
  refine (d4).mono ?_
  rintro e X4 ⟨rfl, c4⟩
  obtain ⟨q4, j4⟩ := keepc c4 q3 j3
  clear d4
  go_wp2_with fail
  refine wp_goto ?_
  show Exit.chain _ _ _ 8 (.goto 3) _ _
  simp only [Exit.chain]
  exact key 5 3 m3 X4 _ _ _ _ _ _ _ _ _ _ _ _ _ _ _ _ _ rfl (by omega) HB.out.1 HB.out.2 q4 j4 (((((Chg.refl _ _).trans c1 (fun _ _ e => e)).trans c2 (fun _ _ e => e)).trans c3 (fun _ _ e => e)).trans c4 (fun _ _ e => e))
end Go.Proofs.YtkamjhhaghkdmaaDoor
