/- Sets: equality, Within, Clean, Less, Subset. -/
import Derived.Test.YteemkceceaabkaaGreatSt
import Derived.ChangeKeysEq
import Derived.Lib.BitFns
import Derived.Laws.ShiftsVarLaws
namespace Go.Ear
open Go.RowKit
deriving instance DecidableEq for St
theorem part_u32 {P : Program} (w : World) (e : TypeId) (he : P.underlying e = some (.int .u32)) (xs : Array Value) (i n : Nat) (h : xs[i]? = some (u32v n)) : (part e xs i).run P w = .ok (u32v n) w := by
  simp [part, isAgg, run_underlying he, h]
theorem equal_set {P : Program} (w : World) (d : Nat) (t e : TypeId) (i : TypeInfo) (ht : P.underlying t = some (.array 4 e)) (he : P.underlying e = some (.int .u32)) (hi : P.info? e = some i) (hc : P.cellsOf e = 1) (a b c x a' b' c' x' : Nat) :
    (Op.equalIn (d + 2) t (.agg #[u32v a, u32v b, u32v c, u32v x]) (.agg #[u32v a', u32v b', u32v c', u32v x'])).run P w = .ok (decide (a = a' ∧ b = b' ∧ c = c' ∧ x = x')) w := by
  have pe : ∀ (n m : Nat) (w : World), (Op.equalIn (d + 1) e (u32v n) (u32v m)).run P w = .ok (decide (n = m)) w := fun n m w => by
    rw [run_equalIn_int w d e .u32 .u32 _ _ he]
    congr 1
    by_cases h : n = m <;> simp [h]
    omega
  have p : ∀ (xs : Array Value) (i n : Nat) (h : xs[i]? = some (u32v n)) (w : World), (part e xs i).run P w = .ok (u32v n) w := fun xs i n h w => part_u32 w e he xs i n h
  rw [run_equalIn_array w (d + 1) _ _ ht hi, hc]
  have x0 := p #[u32v a, u32v b, u32v c, u32v x] 0 a rfl
  have x1 := p #[u32v a, u32v b, u32v c, u32v x] 1 b rfl
  have x2 := p #[u32v a, u32v b, u32v c, u32v x] 2 c rfl
  have x3 := p #[u32v a, u32v b, u32v c, u32v x] 3 x rfl
  have y0 := p #[u32v a', u32v b', u32v c', u32v x'] 0 a' rfl
  have y1 := p #[u32v a', u32v b', u32v c', u32v x'] 1 b' rfl
  have y2 := p #[u32v a', u32v b', u32v c', u32v x'] 2 c' rfl
  have y3 := p #[u32v a', u32v b', u32v c', u32v x'] 3 x' rfl
  generalize (#[u32v a, u32v b, u32v c, u32v x] : Array Value) = xs at *
  generalize (#[u32v a', u32v b', u32v c', u32v x'] : Array Value) = ys at *
  simp only [List.range, List.range.loop, Op.eqItems, Sem.run_bind, Nat.mul_one, x0, y0, Result.andThen_ok, pe]
  by_cases h1 : a = a' <;> by_cases h2 : b = b' <;> by_cases h3 : c = c' <;> by_cases h4 : x = x' <;> simp [h1, h2, h3, h4, x1, x2, x3, y1, y2, y3, pe]
end Go.Ear
namespace Go.Proofs.YteemkceceaabkaaGreat
open Go.RowKit Go.Ear
set_option maxHeartbeats 1000000
set_option maxRecDepth 40000

theorem infoU32 : (Tryz.prog.info? 74).map (fun i => (i.zero, i.size, i.bytes)) = some (some (.int .u32 0), 1, 4) := by kernel_rfl
theorem cellsU32 : Tryz.prog.cellsOf 74 = 1 := by kernel_rfl
theorem guardSet : Tryz.prog.eqGuardType Tryz.prog.depth 76 = false := by kernel_rfl
theorem eqSet (w : World) (a b c x a' b' c' x' : Nat) : (Op.equalIn 10000 76 (.agg #[u32v a, u32v b, u32v c, u32v x]) (.agg #[u32v a', u32v b', u32v c', u32v x'])).run Tryz.prog w = .ok (decide (a = a' ∧ b = b' ∧ c = c' ∧ x = x')) w := by
  obtain ⟨i0, hi, hz0, hz1, hz2⟩ := info_parts infoU32
  exact equal_set w 9998 76 74 i0 Tryz.underlying76 Tryz.underlying74 hi cellsU32 a b c x a' b' c' x'

theorem clean_any (s : St) (hs : s.ok) (w : World) : Calls Tryz.prog 152 #[s.v] w (Gr (St.map2 (fun a b => a &&& b) s (St.upTo 100)).v w) := by
  have hu := fun W => upTo_any 100 (by omega) W
  have he := fun W => each_clean s (St.upTo 100) hs (St.upTo_ok 100) W
  generalize hr : St.map2 (fun a b => a &&& b) s (St.upTo 100) = r at *
  generalize St.upTo 100 = u at *
  clear hr
  go_enter Tryz.func152, Tryz.ntmps152
  go_wp2
  go_region_law (first
    | (go_simp; go_at_call 150; refine (hu _).mono ?_; rintro e w' ⟨rfl, g, hg⟩; subst hg)
    | (go_simp; go_at_call 149; refine (he _).mono ?_; rintro e w' ⟨rfl, g, hg⟩; subst hg))
  all_goals
    go_wp2
    exact bodyPost_ret (v := r.v) (by simp [results, Tryz.results152, go_sem]) rfl (gr_mk rfl (by repeat (with_reducible first | exact Chg.refl _ _ | refine chg_m ?_ _ | refine chg_g ?_ _ | refine chg_alloc ?_ _ | refine chg_drew ?_ | refine chg_drewN ?_ _ | refine chg_set ?_ _ _ _)))
end Go.Proofs.YteemkceceaabkaaGreat
/- Sets: Within, Less, Subset. -/
namespace Go.Proofs.YteemkceceaabkaaGreat
open Go.RowKit Go.Ear
set_option maxHeartbeats 1000000
set_option maxRecDepth 40000

theorem within_any (s : St) (hs : s.ok) (n : Int) (w : World) : Calls Tryz.prog 145 #[s.v, i64 n] w (Gr (.bool (decide (St.map2 (fun a b => a &&& b) s (St.upTo (min (max n 0) 100).toNat) = s))) w) := by
  have hu : ∀ (m : Int) (_ : m = (min (max n 0) 100).toNat) (W : World), Calls Tryz.prog 150 #[i64 m] W (Gr (St.upTo (min (max n 0) 100).toNat).v W) := fun m hm W => by rw [hm]; exact upTo_any (min (max n 0) 100).toNat (by omega) W
  have he := fun W => each_within s (St.upTo (min (max n 0) 100).toNat) hs (St.upTo_ok _) W
  have heq := fun (r : St) => (show decide (r = s) = decide (r.a = s.a ∧ r.b = s.b ∧ r.c = s.c ∧ r.d = s.d) by cases r; cases s; simp)
  rw [heq]
  clear heq
  generalize hr : St.map2 (fun a b => a &&& b) s (St.upTo (min (max n 0) 100).toNat) = r at *
  generalize St.upTo (min (max n 0) 100).toNat = u at *
  have heq := fun W => eqSet W r.a r.b r.c r.d s.a s.b s.c s.d
  have hgs := guardSet
  clear hr
  go_enter Tryz.func145, Tryz.ntmps145
  go_wp2
  go_region_law (first
    | (go_simp; go_at_call 150; refine (hu _ (by repeat' split <;> omega) _).mono ?_; rintro e w' ⟨rfl, g, hg⟩; subst hg)
    | (go_simp; go_at_call 149; refine (he _).mono ?_; rintro e w' ⟨rfl, g, hg⟩; subst hg))
  all_goals
    go_wp2
    all_goals exact bodyPost_ret (by simp [results, Tryz.results145, go_sem]) rfl (gr_mk rfl (by repeat (with_reducible first | exact Chg.refl _ _ | refine chg_m ?_ _ | refine chg_g ?_ _ | refine chg_alloc ?_ _ | refine chg_drew ?_ | refine chg_drewN ?_ _ | refine chg_set ?_ _ _ _)))

/-- What is in the one and not in the other one. -/
def St.less (s t : St) : St := St.map2 (fun a b => a &&& b) (St.map2 (fun a b => a &&& (4294967295 - b)) s t) (St.upTo 100)
theorem St.less_ok {s t : St} (hs : s.ok) : (St.map2 (fun a b => a &&& (4294967295 - b)) s t).ok := by
  obtain ⟨h1, h2, h3, h4⟩ := hs
  exact ⟨and_lt' h1, and_lt' h2, and_lt' h3, and_lt' h4⟩
theorem less_any (s t : St) (hs : s.ok) (ht : t.ok) (w : World) : Calls Tryz.prog 155 #[s.v, t.v] w (Gr (St.less s t).v w) := by
  have he := fun W => each_less s t hs ht W
  have hk := fun W => clean_any _ (St.less_ok (t := t) hs) W
  unfold St.less
  generalize St.map2 (fun a b => a &&& (4294967295 - b)) s t = r at *
  generalize St.map2 (fun a b => a &&& b) r (St.upTo 100) = u at *
  go_enter Tryz.func155, Tryz.ntmps155
  go_wp2_with fail
  refine (he _).mono ?_
  rintro e w' ⟨rfl, g, rfl⟩
  go_wp2_with fail
  refine (hk _).mono ?_
  rintro e w' ⟨rfl, g, rfl⟩
  go_wp2_with fail
  exact bodyPost_ret (v := u.v) (by simp [results, Tryz.results155, go_sem]) rfl (gr_mk rfl (by repeat (with_reducible first | exact Chg.refl _ _ | refine chg_m ?_ _ | refine chg_g ?_ _ | refine chg_alloc ?_ _ | refine chg_drew ?_ | refine chg_drewN ?_ _ | refine chg_set ?_ _ _ _)))

theorem subset_any (s t : St) (hs : s.ok) (ht : t.ok) (w : World) : Calls Tryz.prog 148 #[s.v, t.v] w (Gr (.bool (decide (St.less s t = ⟨0, 0, 0, 0⟩))) w) := by
  have he := fun W => less_any s t hs ht W
  have heq := fun (r : St) => (show decide (r = ⟨0, 0, 0, 0⟩) = decide (r.a = 0 ∧ r.b = 0 ∧ r.c = 0 ∧ r.d = 0) by cases r; simp)
  rw [heq]
  clear heq
  generalize St.less s t = r at *
  have heq : ∀ W : World, (Op.equalIn 10000 76 (.agg #[u32v r.a, u32v r.b, u32v r.c, u32v r.d]) (.agg #[.int .u32 0, .int .u32 0, .int .u32 0, .int .u32 0])).run Tryz.prog W = .ok (decide (r.a = 0 ∧ r.b = 0 ∧ r.c = 0 ∧ r.d = 0)) W := fun W => eqSet W r.a r.b r.c r.d 0 0 0 0
  have hgs := guardSet
  go_enter Tryz.func148, Tryz.ntmps148
  go_wp2_with fail
  refine (he _).mono ?_
  rintro e w' ⟨rfl, g, rfl⟩
  go_wp2
  exact bodyPost_ret (by simp [results, Tryz.results148, go_sem]) rfl (gr_mk rfl (by repeat (with_reducible first | exact Chg.refl _ _ | refine chg_m ?_ _ | refine chg_g ?_ _ | refine chg_alloc ?_ _ | refine chg_drew ?_ | refine chg_drewN ?_ _ | refine chg_set ?_ _ _ _)))
end Go.Proofs.YteemkceceaabkaaGreat
/- Sets: Has, OnesCount32, Count. -/
namespace Go.Ear
open Go.RowKit
theorem shr_u32 {n k : Nat} (hk : k < 32) : (n : Int) / 2 ^ (min k 32) = ((n / 2 ^ k : Nat) : Int) := by
  rw [Nat.min_eq_left (by omega)]
  simp
end Go.Ear
namespace Go.Proofs.YteemkceceaabkaaGreat
open Go.RowKit Go.Ear
set_option maxHeartbeats 1000000
set_option maxRecDepth 40000

theorem has_any (s : St) (hs : s.ok) (i : Int) (w : World) : Calls Tryz.prog 147 #[s.v, i64 i] w (Gr (.bool (decide (0 ≤ i ∧ i < 100) && (s.get (i.toNat / 32)).testBit (i.toNat % 32))) w) := by
  have hid := fun W => isId_any i W
  by_cases hi : 0 ≤ i ∧ i < 100
  · obtain ⟨m, rfl⟩ : ∃ m : Nat, i = m := ⟨i.toNat, by omega⟩
    have hm : m < 100 := by omega
    simp only [hi, decide_true, Bool.true_and, Int.toNat_natCast, and_self] at hid ⊢
    have e1 : (m : Int).tdiv 32 = ((m / 32 : Nat) : Int) := by rw [Int.tdiv_eq_ediv_of_nonneg (by omega)]; omega
    have e2 : (m : Int).tmod 32 = ((m % 32 : Nat) : Int) := by rw [Int.tmod_eq_emod_of_nonneg (by omega)]; omega
    have hq : m / 32 < 4 := by omega
    have hr : m % 32 < 32 := by omega
    have hg := St.ok_get hs (m / 32)
    have key : ∀ n : Nat, n < 4294967296 → (bits .and .u32 ((n : Int) / 2 ^ (m % 32)) 1 == 1) = n.testBit (m % 32) := fun n hn => by
      rw [show (n : Int) / 2 ^ (m % 32) = ((n / 2 ^ (m % 32) : Nat) : Int) by simp, show (1 : Int) = ((1 : Nat) : Int) from rfl, st_and (Nat.lt_of_le_of_lt (Nat.div_le_self _ _) hn) (by omega)]
      have : n / 2 ^ (m % 32) &&& 1 = n / 2 ^ (m % 32) % 2 := Nat.and_one_is_mod _
      rw [this, Nat.testBit_eq_decide_div_mod_eq, Bool.eq_iff_iff]
      generalize n / 2 ^ (m % 32) = k
      simp
      omega
    generalize m / 32 = q at *
    generalize m % 32 = r at *
    have hr0 : (0 : Int) ≤ (r : Int) := by omega
    rcases (show q = 0 ∨ q = 1 ∨ q = 2 ∨ q = 3 by omega) with rfl | rfl | rfl | rfl
    all_goals
      simp only [St.get] at hg ⊢
      have hk := Lib.hid (key _ hg)
      clear key
      go_enter Tryz.func147, Tryz.ntmps147
      go_wp2
      rw [hk.out]
      exact bodyPost_ret (by simp [results, Tryz.results147, go_sem]) rfl (gr_mk rfl (by repeat (with_reducible first | exact Chg.refl _ _ | refine chg_m ?_ _ | refine chg_g ?_ _ | refine chg_alloc ?_ _ | refine chg_drew ?_ | refine chg_drewN ?_ _ | refine chg_set ?_ _ _ _)))
  · simp only [hi, decide_false, Bool.false_and] at hid ⊢
    go_enter Tryz.func147, Tryz.ntmps147
    go_wp2
    all_goals exact bodyPost_ret (by simp [results, Tryz.results147, go_sem]) rfl (gr_mk rfl (by repeat (with_reducible first | exact Chg.refl _ _ | refine chg_m ?_ _ | refine chg_g ?_ _ | refine chg_alloc ?_ _ | refine chg_drew ?_ | refine chg_drewN ?_ _ | refine chg_set ?_ _ _ _)))

theorem ones_any (n : Nat) (hn : n < 4294967296) (w : World) : Calls Tryz.prog 153 #[u32v n] w (Gr (i64 ((Lib.onesCount (n / 2 ^ 24) : Int) + Lib.onesCount (n / 2 ^ 16 % 256) + Lib.onesCount (n / 2 ^ 8 % 256) + Lib.onesCount (n % 256))) w) := by
  have d0 : (0 : Int) ≤ (n : Int) / 16777216 := by omega
  have d1 : (n : Int) / 16777216 ≤ 255 := by omega
  have hb : ∀ k : Nat, k < 4294967296 → bits .and .u32 (k : Int) 255 = (k : Int) % 256 := fun k hk => by
    rw [show (255 : Int) = ((255 : Nat) : Int) from rfl, st_and hk (by omega), show k &&& 255 = k % 256 from Nat.and_two_pow_sub_one_eq_mod k 8]
    omega
  have m3 := hb n hn
  have m1 : bits .and .u32 ((n : Int) / 65536) 255 = (n : Int) / 65536 % 256 := hb (n / 65536) (by omega)
  have m2 : bits .and .u32 ((n : Int) / 256) 255 = (n : Int) / 256 % 256 := hb (n / 256) (by omega)
  clear hb
  have p8 : ∀ k : Nat, k < 256 → Lib.pop8 (k : Int) = (Lib.onesCount k : Int) ∧ Lib.onesCount k ≤ 8 := fun k hk => ⟨Lib.pop8_eq ⟨k, hk⟩, Lib.onesCount_le8 ⟨k, hk⟩⟩
  obtain ⟨p0, q0⟩ := p8 (n / 2 ^ 24) (by omega)
  obtain ⟨p1, q1⟩ := p8 (n / 2 ^ 16 % 256) (by omega)
  obtain ⟨p2, q2⟩ := p8 (n / 2 ^ 8 % 256) (by omega)
  obtain ⟨p3, q3⟩ := p8 (n % 256) (by omega)
  clear p8
  generalize Lib.onesCount (n / 2 ^ 24) = x0 at *
  generalize Lib.onesCount (n / 2 ^ 16 % 256) = x1 at *
  generalize Lib.onesCount (n / 2 ^ 8 % 256) = x2 at *
  generalize Lib.onesCount (n % 256) = x3 at *
  replace p0 : Lib.pop8 ((n : Int) / 16777216) = (x0 : Int) := p0
  replace p1 : Lib.pop8 ((n : Int) / 65536 % 256) = (x1 : Int) := p1
  replace p2 : Lib.pop8 ((n : Int) / 256 % 256) = (x2 : Int) := p2
  replace p3 : Lib.pop8 ((n : Int) % 256) = (x3 : Int) := p3
  have w1 : IntKind.u8.wrap ((x0 : Int) + x1) = (x0 : Int) + x1 := by rw [IntKind.wrap_u8]; omega
  have w2 : IntKind.u8.wrap ((x0 : Int) + x1 + x2) = (x0 : Int) + x1 + x2 := by rw [IntKind.wrap_u8]; omega
  have w3 : IntKind.u8.wrap ((x0 : Int) + x1 + x2 + x3) = (x0 : Int) + x1 + x2 + x3 := by rw [IntKind.wrap_u8]; omega
  have w4 : IntKind.i64.wrap ((x0 : Int) + x1 + x2 + x3) = (x0 : Int) + x1 + x2 + x3 := by simp [IntKind.wrap, IntKind.bits, IntKind.signed]; omega
  go_enter Tryz.func153, Tryz.ntmps153
  conv in (occs := *) (ByteArray.mk _) => all_goals change Lib.pop8tab
  go_wp2
  go_region_law fail
  all_goals
    go_wp2
    exact bodyPost_ret (v := i64 ((x0 : Int) + x1 + x2 + x3)) (by simp [results, Tryz.results153, go_sem]) rfl (gr_mk rfl (by repeat (with_reducible first | exact Chg.refl _ _ | refine chg_drew ?_ | refine chg_drewN ?_ _)))

/-- How many ids a word has. -/
def ones (n : Nat) : Nat := Lib.onesCount (n / 2 ^ 24) + Lib.onesCount (n / 2 ^ 16 % 256) + Lib.onesCount (n / 2 ^ 8 % 256) + Lib.onesCount (n % 256)
theorem ones_le (n : Nat) (hn : n < 4294967296) : ones n ≤ 32 := by
  have h0 := Lib.onesCount_le8 ⟨n / 2 ^ 24, by omega⟩
  have h1 := Lib.onesCount_le8 ⟨n / 2 ^ 16 % 256, by omega⟩
  have h2 := Lib.onesCount_le8 ⟨n / 2 ^ 8 % 256, by omega⟩
  have h3 := Lib.onesCount_le8 ⟨n % 256, by omega⟩
  simp only at h0 h1 h2 h3
  unfold ones
  omega
/-- How many the first q words have. -/
def onesTo (s : St) : Nat → Nat
  | 0 => 0
  | q + 1 => onesTo s q + ones (s.get q)
theorem onesTo_le (s : St) (hs : s.ok) : ∀ q, onesTo s q ≤ q * 32
  | 0 => by simp [onesTo]
  | q + 1 => by
    have := onesTo_le s hs q
    have h2 := ones_le _ (St.ok_get hs q)
    simp only [onesTo]
    omega

end Go.Proofs.YteemkceceaabkaaGreat
/- Sets of ids, bit by bit: what the words say (plain: no program). -/
namespace Go.Ear
open Go.RowKit
set_option linter.unusedSimpArgs false

/-- Is i's bit 1? -/
def St.bit (s : St) (i : Nat) : Bool := (s.get (i / 32)).testBit (i % 32)
theorem St.get_ext {s t : St} (h : ∀ q, q < 4 → s.get q = t.get q) : s = t := by
  have h0 := h 0 (by omega)
  have h1 := h 1 (by omega)
  have h2 := h 2 (by omega)
  have h3 := h 3 (by omega)
  cases s
  cases t
  simp only [St.get] at h0 h1 h2 h3
  simp only [h0, h1, h2, h3]
theorem word_ext {a b : Nat} (ha : a < 4294967296) (hb : b < 4294967296) (h : ∀ r, r < 32 → a.testBit r = b.testBit r) : a = b :=
  Nat.eq_of_testBit_eq fun r => by
    by_cases hr : r < 32
    · exact h r hr
    · have hp : 4294967296 ≤ 2 ^ r := by
        have : 2 ^ 32 ≤ 2 ^ r := Nat.pow_le_pow_right (by decide) (by omega)
        omega
      rw [Nat.testBit_lt_two_pow (Nat.lt_of_lt_of_le ha hp), Nat.testBit_lt_two_pow (Nat.lt_of_lt_of_le hb hp)]
theorem St.bit_at (s : St) (q r : Nat) (hr : r < 32) : s.bit (q * 32 + r) = (s.get q).testBit r := by
  unfold St.bit
  rw [show (q * 32 + r) / 32 = q by omega, show (q * 32 + r) % 32 = r by omega]
theorem St.ext_bit {s t : St} (hs : s.ok) (ht : t.ok) (h : ∀ i, i < 128 → s.bit i = t.bit i) : s = t :=
  St.get_ext fun q hq => word_ext (St.ok_get hs q) (St.ok_get ht q) fun r hr => by
    have := h (q * 32 + r) (by omega)
    rwa [St.bit_at _ _ _ hr, St.bit_at _ _ _ hr] at this
theorem St.bit_and (s t : St) (i : Nat) : (St.map2 (fun a b => a &&& b) s t).bit i = (s.bit i && t.bit i) := by
  unfold St.bit
  rw [St.map2_get, Nat.testBit_and]
theorem St.bit_upTo (n i : Nat) (hi : i < 128) : (St.upTo n).bit i = decide (i < n) := by
  unfold St.bit
  rw [St.upTo_get _ _ (by omega), Nat.testBit_two_pow_sub_one, decide_eq_decide]
  omega
theorem St.bit_andNot (s t : St) (ht : t.ok) (i : Nat) : (St.map2 (fun a b => a &&& (4294967295 - b)) s t).bit i = (s.bit i && !t.bit i) := by
  unfold St.bit
  have h := St.ok_get ht (i / 32)
  rw [St.map2_get, Nat.testBit_and, show 4294967295 - t.get (i / 32) = 2 ^ 32 - (t.get (i / 32) + 1) by omega, Nat.testBit_two_pow_sub_succ h]
  have : i % 32 < 32 := Nat.mod_lt _ (by decide)
  simp [this]
theorem St.bit_less (s t : St) (ht : t.ok) (i : Nat) (hi : i < 128) : (Go.Proofs.YteemkceceaabkaaGreat.St.less s t).bit i = (s.bit i && !t.bit i && decide (i < 100)) := by
  unfold Go.Proofs.YteemkceceaabkaaGreat.St.less
  rw [St.bit_and, St.bit_andNot _ _ ht, St.bit_upTo _ _ hi]
theorem St.and_ok {s t : St} (hs : s.ok) : (St.map2 (fun a b => a &&& b) s t).ok := by
  obtain ⟨h1, h2, h3, h4⟩ := hs
  exact ⟨and_lt' h1, and_lt' h2, and_lt' h3, and_lt' h4⟩
theorem St.zero_ok : St.ok ⟨0, 0, 0, 0⟩ := ⟨by decide, by decide, by decide, by decide⟩
theorem St.bit_zero (i : Nat) : St.bit ⟨0, 0, 0, 0⟩ i = false := by
  unfold St.bit St.get
  split <;> simp

/-- Whether all bits are those of ids below n. -/
def St.within (s : St) (n : Int) : Bool := (List.range 128).all fun i => !s.bit i || decide ((i : Int) < n ∧ i < 100)
theorem St.within_iff (s : St) (n : Int) : s.within n = true ↔ ∀ i, i < 128 → s.bit i = true → (i : Int) < n ∧ i < 100 := by
  unfold St.within
  simp only [List.all_eq_true, List.mem_range, Bool.or_eq_true, Bool.not_eq_true', decide_eq_true_eq]
  constructor
  · intro h i hi hb
    rcases h i hi with h | h
    · rw [h] at hb; cases hb
    · exact h
  · intro h i hi
    cases hb : s.bit i
    · exact .inl rfl
    · exact .inr (h i hi hb)
theorem within_eq (s : St) (hs : s.ok) (n : Int) : decide (St.map2 (fun a b => a &&& b) s (St.upTo (min (max n 0) 100).toNat) = s) = s.within n := by
  rw [Bool.eq_iff_iff, decide_eq_true_eq, St.within_iff]
  constructor
  · intro h i hi hb
    rw [← h, St.bit_and, St.bit_upTo _ _ hi] at hb
    simp only [Bool.and_eq_true, decide_eq_true_eq] at hb
    omega
  · intro h
    refine St.ext_bit (St.and_ok hs) hs fun i hi => ?_
    rw [St.bit_and, St.bit_upTo _ _ hi]
    by_cases hb : s.bit i = true
    · have := h i hi hb
      simp only [hb, Bool.true_and, decide_eq_true_eq]
      omega
    · simp only [Bool.not_eq_true] at hb
      simp [hb]
/-- Whether an id is in a set. -/
def St.has (s : St) (i : Int) : Bool := decide (0 ≤ i ∧ i < 100) && s.bit i.toNat
/-- The ids of a set. -/
def St.ids (s : St) : List Nat := (List.range 100).filter s.bit
/-- Whether all ids of the one are in the other one. -/
def St.sub (s t : St) : Bool := (List.range 100).all fun i => !s.bit i || t.bit i
theorem St.sub_iff (s t : St) : St.sub s t = true ↔ ∀ i, i < 100 → s.bit i = true → t.bit i = true := by
  unfold St.sub
  simp only [List.all_eq_true, List.mem_range, Bool.or_eq_true, Bool.not_eq_true']
  constructor
  · intro h i hi hb
    rcases h i hi with h | h
    · rw [h] at hb; cases hb
    · exact h
  · intro h i hi
    cases hb : s.bit i
    · exact .inl rfl
    · exact .inr (h i hi hb)
theorem subset_eq (s t : St) (hs : s.ok) (ht : t.ok) : decide (Go.Proofs.YteemkceceaabkaaGreat.St.less s t = ⟨0, 0, 0, 0⟩) = St.sub s t := by
  rw [Bool.eq_iff_iff, decide_eq_true_eq, St.sub_iff]
  constructor
  · intro h i hi hb
    have e := St.bit_less s t ht i (by omega)
    rw [h, St.bit_zero, hb] at e
    simp only [hi, decide_true, Bool.true_and, Bool.and_true] at e
    cases hb2 : t.bit i
    · simp [hb2] at e
    · rfl
  · intro h
    refine St.ext_bit (s := Go.Proofs.YteemkceceaabkaaGreat.St.less s t) (St.and_ok (Go.Proofs.YteemkceceaabkaaGreat.St.less_ok hs)) St.zero_ok fun i hi => ?_
    rw [St.bit_zero, St.bit_less _ _ ht _ hi]
    by_cases h1 : i < 100
    · cases hb : s.bit i
      · simp
      · simp [h i h1 hb]
    · simp [h1]

/-- How many of the first k hold. -/
def cnt (p : Nat → Bool) : Nat → Nat
  | 0 => 0
  | k + 1 => cnt p k + if p k then 1 else 0
theorem cnt_len (p : Nat → Bool) : ∀ k, ((List.range k).filter p).length = cnt p k
  | 0 => rfl
  | k + 1 => by
    rw [List.range_succ, List.filter_append, List.length_append, cnt_len p k, cnt]
    by_cases h : p k <;> simp [List.filter_cons, h]
theorem cnt_congr {p q : Nat → Bool} : ∀ k, (∀ i, i < k → p i = q i) → cnt p k = cnt q k
  | 0, _ => rfl
  | k + 1, h => by rw [cnt, cnt, cnt_congr k (fun i hi => h i (by omega)), h k (by omega)]
theorem cnt_add (p : Nat → Bool) (a : Nat) : ∀ b, cnt p (a + b) = cnt p a + cnt (fun i => p (a + i)) b
  | 0 => rfl
  | b + 1 => by rw [← Nat.add_assoc, cnt, cnt_add p a b, cnt]; omega
theorem cnt_false {p : Nat → Bool} : ∀ k, (∀ i, i < k → p i = false) → cnt p k = 0
  | 0, _ => rfl
  | k + 1, h => by rw [cnt, cnt_false k (fun i hi => h i (by omega)), h k (by omega)]; rfl
theorem cnt_32 (p : Nat → Bool) : cnt p 32 = cnt p 8 + cnt (fun i => p (8 + i)) 8 + cnt (fun i => p (16 + i)) 8 + cnt (fun i => p (24 + i)) 8 := by
  rw [cnt_add p 24 8, cnt_add p 16 8, cnt_add p 8 8]
theorem ones8 : ∀ n : Fin 256, Lib.onesCount n.val = cnt n.val.testBit 8 := by decide +kernel
end Go.Ear
namespace Go.Proofs.YteemkceceaabkaaGreat
open Go.RowKit Go.Ear
theorem ones_cnt (n : Nat) (hn : n < 4294967296) : ones n = cnt n.testBit 32 := by
  have e0 : Lib.onesCount (n % 256) = cnt n.testBit 8 := (ones8 ⟨n % 256, by omega⟩).trans (cnt_congr 8 fun i hi => by
    simp only
    rw [show n % 256 = n % 2 ^ 8 by rfl, Nat.testBit_mod_two_pow]; simp [hi])
  have e1 : Lib.onesCount (n / 2 ^ 8 % 256) = cnt (fun i => n.testBit (8 + i)) 8 := (ones8 ⟨n / 2 ^ 8 % 256, by omega⟩).trans (cnt_congr 8 fun i hi => by
    simp only
    rw [show n / 2 ^ 8 % 256 = n / 2 ^ 8 % 2 ^ 8 by rfl, Nat.testBit_mod_two_pow, Nat.testBit_div_two_pow]; simp [hi, Nat.add_comm])
  have e2 : Lib.onesCount (n / 2 ^ 16 % 256) = cnt (fun i => n.testBit (16 + i)) 8 := (ones8 ⟨n / 2 ^ 16 % 256, by omega⟩).trans (cnt_congr 8 fun i hi => by
    simp only
    rw [show n / 2 ^ 16 % 256 = n / 2 ^ 16 % 2 ^ 8 by rfl, Nat.testBit_mod_two_pow, Nat.testBit_div_two_pow]; simp [hi, Nat.add_comm])
  have e3 : Lib.onesCount (n / 2 ^ 24) = cnt (fun i => n.testBit (24 + i)) 8 := (ones8 ⟨n / 2 ^ 24, by omega⟩).trans (cnt_congr 8 fun i hi => by
    simp only
    rw [Nat.testBit_div_two_pow]; simp [Nat.add_comm])
  unfold ones
  rw [e0, e1, e2, e3, cnt_32]
  omega
theorem onesTo_cnt (s : St) (hs : s.ok) : ∀ q, q ≤ 4 → onesTo s q = cnt s.bit (q * 32)
  | 0, _ => rfl
  | q + 1, hq => by
    rw [onesTo, onesTo_cnt s hs q (by omega), show (q + 1) * 32 = q * 32 + 32 by omega, cnt_add, ones_cnt _ (St.ok_get hs q)]
    rw [cnt_congr 32 (fun i hi => (St.bit_at s q i hi))]
theorem count_eq (s : St) (hs : s.ok) : onesTo (St.map2 (fun a b => a &&& b) s (St.upTo 100)) 4 = s.ids.length := by
  have h1 := onesTo_cnt _ (St.and_ok (t := St.upTo 100) hs) 4 (Nat.le_refl _)
  have h2 : cnt (fun i => (St.map2 (fun a b => a &&& b) s (St.upTo 100)).bit (100 + i)) 28 = 0 := cnt_false 28 (fun i hi => by
    rw [St.bit_and, St.bit_upTo _ _ (by omega)]; simp)
  have h3 := cnt_add (St.map2 (fun a b => a &&& b) s (St.upTo 100)).bit 100 28
  rw [h2] at h3
  rw [h1, h3, Nat.add_zero]
  unfold St.ids
  rw [cnt_len]
  exact cnt_congr 100 fun i hi => by rw [St.bit_and, St.bit_upTo _ _ (by omega)]; simp [hi]
end Go.Proofs.YteemkceceaabkaaGreat
/- Sets: Count. -/
namespace Go.Proofs.YteemkceceaabkaaGreat
open Go.RowKit Go.Ear
set_option maxHeartbeats 1000000
set_option maxRecDepth 40000

theorem idxSet (w : World) (r : St) (q : Nat) (hq : q < 4) : (Instr.index 76 r.v (i64 q)).run Tryz.prog w = .ok (u32v (r.get q)) w := by
  obtain ⟨i0, hi, hz0, hz1, hz2⟩ := info_parts infoU32
  have hp := part_u32 w 74 Tryz.underlying74 r.cells q (r.get q) (St.cells_get r hq)
  have hsz := run_sizeOf (P := Tryz.prog) w hi
  rw [cellsU32] at hsz
  simp [Instr.index, asIntOf, run_underlying Tryz.underlying76, hsz, hp, hq]
theorem count_any (s : St) (hs : s.ok) (w : World) : Calls Tryz.prog 146 #[s.v] w (Gr (i64 (onesTo (St.map2 (fun a b => a &&& b) s (St.upTo 100)) 4)) w) := by
  have hk := fun W => clean_any s hs W
  have hok : (St.map2 (fun a b => a &&& b) s (St.upTo 100)).ok := by
    obtain ⟨h1, h2, h3, h4⟩ := hs
    exact ⟨and_lt' h1, and_lt' h2, and_lt' h3, and_lt' h4⟩
  generalize St.map2 (fun a b => a &&& b) s (St.upTo 100) = r at *
  have hone : ∀ q W, Calls Tryz.prog 153 #[u32v (r.get q)] W (Gr (i64 (ones (r.get q))) W) := fun q W => by
    have := ones_any (r.get q) (St.ok_get hok q) W
    rw [show (Lib.onesCount (r.get q / 2 ^ 24) : Int) + Lib.onesCount (r.get q / 2 ^ 16 % 256) + Lib.onesCount (r.get q / 2 ^ 8 % 256) + Lib.onesCount (r.get q % 256) = ((ones (r.get q) : Nat) : Int) by simp [ones]] at this
    exact this
  have hle := onesTo_le r hok
  go_enter Tryz.func146, Tryz.ntmps146
  go_wp2_with fail
  refine (hk _).mono ?_
  rintro e w' ⟨rfl, g, rfl⟩
  go_wp2
  go_loopw [3, 8] (fun n' i' wr => ∃ q : Nat, q ≤ 4 ∧ n' = i64 (onesTo r q) ∧ i' = i64 q ∧ Chg Noth w wr) (fun _ i' _ => 4 - (intOf i').toNat)
  case atStart =>
    exact ⟨0, by omega, rfl, rfl, (by repeat (with_reducible first | exact Chg.refl _ _ | refine chg_m ?_ _ | refine chg_g ?_ _ | refine chg_alloc ?_ _ | refine chg_drew ?_ | refine chg_drewN ?_ _ | refine chg_set ?_ _ _ _))⟩
  case round =>
    obtain ⟨q, hq, rfl, rfl, hc⟩ := hrel
    have h1 := hle q
    have h2 := hle (q + 1)
    have w4 : wrap64 ((onesTo r q : Int) + (ones (r.get q) : Int)) = (onesTo r (q + 1) : Int) := by
      simp only [onesTo] at h2 ⊢
      unfold wrap64
      omega
    have HC := Lib.hid hc
    clear hc hle
    have hon := hone q
    clear hone
    by_cases hlt : q < 4
    · have hix := fun W => idxSet W r q hlt
      have e1 : wrap64 ((q : Int) + 1) = ((q + 1 : Nat) : Int) := by unfold wrap64; omega
      obtain ⟨n2, hn2⟩ : ∃ n2, n2 = onesTo r (q + 1) := ⟨_, rfl⟩
      rw [← hn2] at w4 h2
      have HN := Lib.hid hn2
      clear hn2
      generalize onesTo r q = n1 at w4 h1 ⊢
      generalize r.get q = rq at *
      generalize ones rq = o at *
      go_wp2_with (go_at_call 153; refine (hon _).mono ?_; rintro e w' ⟨rfl, g2, rfl⟩)
      exact ⟨⟨q + 1, by omega, by rw [← HN.out, ← w4], by simp, HC.out.trans (by repeat (with_reducible first | exact Chg.refl _ _ | refine chg_m ?_ _ | refine chg_g ?_ _ | refine chg_alloc ?_ _ | refine chg_drew ?_ | refine chg_drewN ?_ _ | refine chg_set ?_ _ _ _)) (fun _ _ h => h)⟩, by simp [intOf]; omega⟩
    · obtain rfl : q = 4 := by omega
      generalize onesTo r 4 = n1 at *
      go_wp2
      exact bodyPost_ret (v := i64 n1) (by simp [results, Tryz.results146, go_sem]) rfl (gr_mk rfl HC.out)
end Go.Proofs.YteemkceceaabkaaGreat
