/- The escapes of a quoted text: the walk. Bits and the bytes of a rune, plain. -/
import Derived.Test.YtkamjhhaghkdmaaDoorH22
import Derived.Laws.BitsAllLaws
import Derived.IntWalk
namespace Go.Proofs.YtkamjhhaghkdmaaDoor
open Go.RowKit Go.Ear Go.Proofs.YtkamjhhaghkdmaaDoorW.PrintWords Go.Proofs.YtkamjhhaghkdmaaDoor.PScriptLines
set_option maxHeartbeats 4000000
set_option maxRecDepth 100000
set_option linter.unusedSimpArgs false
set_option linter.unusedVariables false
theorem digit_eq (c : Nat) (h : c < 256) : glyph_digit.f 5 (c : Int) = some (hexV c) := by
  have key : ∀ c : Fin 256, glyph_digit.f 5 ((c.val : Nat) : Int) = some (hexV c.val) := by decide +kernel
  exact key ⟨c, h⟩
theorem digit_any (c : Nat) (h : c < 256) (w : World) : Calls Tryd.prog 57 #[.int .u8 c] w (Gr (.int .i64 (hexV c)) w) := by
  refine (glyph_digit.calls 5 c (hexV c) w (digit_eq c h)).mono ?_
  rintro e w' ⟨rfl, hd⟩
  exact gr_mk rfl (Chg.of_below hd.below)
theorem atB_lt (s : ByteArray) (i : Nat) : atB s i < 256 := by
  unfold atB
  split
  · exact by_lt s i
  · omega
theorem get_by (s : ByteArray) (i : Nat) (h : i < s.size) : ((s[i]'h).toNat : Int) = (by' s i : Int) := by
  unfold by'
  have : s.get! i = s[i]'h := by
    show s.data[i]! = _
    rw [getElem!_pos s.data i h]
    rfl
  rw [this]
theorem atc_any (s : ByteArray) (b : Nat) (i : Nat) (w : World) (h : w.cell? ⟨b, 0, none⟩ = some (.string s)) (hb : b < w.heap.size) : Calls Tryd.prog 56 #[.int .i64 (i : Int), .pointer (some ⟨b, 0, none⟩)] w (Gr (.int .u8 (atB s i)) w) := by
  have jb : Old b w := ⟨hb⟩
  by_cases hi : i < s.size
  · have hr : (atB s i : Int) = (by' s i : Int) := by unfold atB; rw [if_pos hi]
    have hg := get_by s i hi
    have x1 : decide ((i : Int) < (s.size : Int)) = true := by simp; omega
    rw [hr]
    clear hr
    go_enter Tryd.func56, Tryd.ntmps56
    go_wp2
    refine bodyPost_ret (v := .int .u8 (by' s i)) (by simp [results, Tryd.results56, go_sem, hg]) rfl ?_
    exact gr_mk rfl (Chg.refl _ _)
  · have hr : atB s i = 0 := by unfold atB; rw [if_neg hi]
    have x1 : decide ((i : Int) < (s.size : Int)) = false := by simp; omega
    rw [hr]
    clear hr
    go_enter Tryd.func56, Tryd.ntmps56
    go_wp2
    refine bodyPost_ret (v := .int .u8 0) (by simp [results, Tryd.results56, go_sem]) rfl ?_
    exact gr_mk rfl (Chg.refl _ _)
theorem extract_one (s : ByteArray) (i : Nat) (h : i < s.size) {c : Nat} (hc : by' s i = c) : s.extract i (i + 1) = ⟨#[UInt8.ofNat c]⟩ := by
  apply ByteArray.ext
  rw [ByteArray.data_extract]
  apply Array.ext'
  rw [Array.toList_extract, List.extract_eq_take_drop]
  have hb := list_by s h
  rw [hc] at hb
  have hl : i < s.data.toList.length := (List.getElem?_eq_some_iff.1 hb).1
  rw [List.drop_eq_getElem_cons hl, (List.getElem?_eq_some_iff.1 hb).2]
  simp
/-- What Escape answers. -/
def escRes (s : ByteArray) : Value := match esc s 0 with
  | none => .tuple #[.string ⟨#[]⟩, .int .i64 0, .bool false]
  | some (b, n) => .tuple #[.string ⟨b.toArray⟩, .int .i64 (n : Int), .bool true]
/-- A contract's end: it answers one value, and writes nothing that was there. -/
def Gc (v : Value) (w : World) : Ending → World → Prop := fun e w' => e = .returned v ∧ Chg Noth w w'
theorem gr_gc {f : Nat} {args : Array Value} {P : Program} {v : Value} {w : World} (h : Calls P f args w (Gr v w)) : Calls P f args w (Gc v w) := h.mono fun e w' ⟨he, g, hw⟩ => ⟨he, by rw [hw]; exact g.h⟩
theorem gc_gr {f : Nat} {args : Array Value} {P : Program} {v : Value} {w : World} (h : Calls P f args w (Gc v w)) : Calls P f args w (Gr v w) := h.mono fun e w' ⟨he, hc⟩ => gr_mk he hc
theorem keepc {b o : Nat} {v : Value} {X Y : World} (h : Chg Noth X Y) (hc : X.cell? ⟨b, o, none⟩ = some v) (hb : Old b X) : Y.cell? ⟨b, o, none⟩ = some v ∧ Old b Y :=
  ⟨(h.cell (p := ⟨b, o, none⟩) hb.lt (fun e => e)).trans hc, ⟨Nat.lt_of_lt_of_le hb.lt h.size⟩⟩
theorem atc_v (s : ByteArray) (b : Nat) (i : Nat) (w : World) (h : w.cell? ⟨b, 0, none⟩ = some (.string s)) (hb : Old b w) : Calls Tryd.prog 56 #[.int .i64 (i : Int), .pointer (some ⟨b, 0, none⟩)] w (Gc (.int .u8 (atB s i)) w) := gr_gc (atc_any s b i w h hb.lt)
theorem digit_v (c : Nat) (h : c < 256) (w : World) : Calls Tryd.prog 57 #[.int .u8 c] w (Gc (.int .i64 (hexV c)) w) := gr_gc (digit_any c h w)
theorem esc_110 (s : ByteArray) (w : World) (hc : atB s 1 = 110) : Calls Tryd.prog 41 #[.string s] w (Gc (escRes s) w) := by
  have HN : Hid (escRes s = .tuple #[.string ⟨#[10]⟩, .int .i64 2, .bool true]) := Lib.hid (by unfold escRes esc; simp [hc])
  have hmf : ∀ (fn : Fn) (first cap : Array Value) (w : World), (Instr.makeFunc fn first cap).run Tryd.prog w = .ok (.func fn first cap) w := fun _ _ _ _ => rfl
  obtain ⟨X, hX⟩ : ∃ X, w.alloc (.cells #[.string s] 9) = X := ⟨_, rfl⟩
  have hcX : Chg Noth w X := by rw [← hX]; exact chg_alloc (Chg.refl _ _) _
  have hcell : X.cell? ⟨w.heap.size, 0, none⟩ = some (.string s) := by rw [← hX]; simp [go_sem]
  have jb : Old w.heap.size X := ⟨by rw [← hX]; simp⟩
  have h1 := atc_v s w.heap.size 1 X hcell jb
  rw [hc, show ((110 : Nat) : Int) = 110 from rfl, show ((1 : Nat) : Int) = 1 from rfl] at h1
  clear hc
  go_enter Tryd.func41, Tryd.ntmps41
  go_wp2
  refine wp_scope_chain 0 fun C hC => ?_
  have HC := Lib.hid hC
  clear hC
  try rw [hX]
  have HX := Lib.hid hX
  clear hX
  go_wp2_with fail
  go_at_call 56
  refine h1.mono ?_
  rintro e X1 ⟨rfl, c1⟩
  obtain ⟨q1, j1⟩ := keepc c1 hcell jb
  clear h1
  go_wp2
  rw [chain_ret]
  refine bodyPost_ret (v := .tuple #[.string ⟨#[10]⟩, .int .i64 2, .bool true]) (by simp [results, Tryd.results41, go_sem, *]) rfl ?_
  rw [HN.out]
  exact ⟨rfl, (hcX.trans c1 (fun _ _ e => e))⟩
theorem esc_116 (s : ByteArray) (w : World) (hc : atB s 1 = 116) : Calls Tryd.prog 41 #[.string s] w (Gc (escRes s) w) := by
  have HN : Hid (escRes s = .tuple #[.string ⟨#[9]⟩, .int .i64 2, .bool true]) := Lib.hid (by unfold escRes esc; simp [hc])
  have hmf : ∀ (fn : Fn) (first cap : Array Value) (w : World), (Instr.makeFunc fn first cap).run Tryd.prog w = .ok (.func fn first cap) w := fun _ _ _ _ => rfl
  obtain ⟨X, hX⟩ : ∃ X, w.alloc (.cells #[.string s] 9) = X := ⟨_, rfl⟩
  have hcX : Chg Noth w X := by rw [← hX]; exact chg_alloc (Chg.refl _ _) _
  have hcell : X.cell? ⟨w.heap.size, 0, none⟩ = some (.string s) := by rw [← hX]; simp [go_sem]
  have jb : Old w.heap.size X := ⟨by rw [← hX]; simp⟩
  have h1 := atc_v s w.heap.size 1 X hcell jb
  rw [hc, show ((116 : Nat) : Int) = 116 from rfl, show ((1 : Nat) : Int) = 1 from rfl] at h1
  clear hc
  go_enter Tryd.func41, Tryd.ntmps41
  go_wp2
  refine wp_scope_chain 0 fun C hC => ?_
  have HC := Lib.hid hC
  clear hC
  try rw [hX]
  have HX := Lib.hid hX
  clear hX
  go_wp2_with fail
  go_at_call 56
  refine h1.mono ?_
  rintro e X1 ⟨rfl, c1⟩
  obtain ⟨q1, j1⟩ := keepc c1 hcell jb
  clear h1
  go_wp2
  rw [chain_ret]
  refine bodyPost_ret (v := .tuple #[.string ⟨#[9]⟩, .int .i64 2, .bool true]) (by simp [results, Tryd.results41, go_sem, *]) rfl ?_
  rw [HN.out]
  exact ⟨rfl, (hcX.trans c1 (fun _ _ e => e))⟩
theorem esc_114 (s : ByteArray) (w : World) (hc : atB s 1 = 114) : Calls Tryd.prog 41 #[.string s] w (Gc (escRes s) w) := by
  have HN : Hid (escRes s = .tuple #[.string ⟨#[13]⟩, .int .i64 2, .bool true]) := Lib.hid (by unfold escRes esc; simp [hc])
  have hmf : ∀ (fn : Fn) (first cap : Array Value) (w : World), (Instr.makeFunc fn first cap).run Tryd.prog w = .ok (.func fn first cap) w := fun _ _ _ _ => rfl
  obtain ⟨X, hX⟩ : ∃ X, w.alloc (.cells #[.string s] 9) = X := ⟨_, rfl⟩
  have hcX : Chg Noth w X := by rw [← hX]; exact chg_alloc (Chg.refl _ _) _
  have hcell : X.cell? ⟨w.heap.size, 0, none⟩ = some (.string s) := by rw [← hX]; simp [go_sem]
  have jb : Old w.heap.size X := ⟨by rw [← hX]; simp⟩
  have h1 := atc_v s w.heap.size 1 X hcell jb
  rw [hc, show ((114 : Nat) : Int) = 114 from rfl, show ((1 : Nat) : Int) = 1 from rfl] at h1
  clear hc
  go_enter Tryd.func41, Tryd.ntmps41
  go_wp2
  refine wp_scope_chain 0 fun C hC => ?_
  have HC := Lib.hid hC
  clear hC
  try rw [hX]
  have HX := Lib.hid hX
  clear hX
  go_wp2_with fail
  go_at_call 56
  refine h1.mono ?_
  rintro e X1 ⟨rfl, c1⟩
  obtain ⟨q1, j1⟩ := keepc c1 hcell jb
  clear h1
  go_wp2
  rw [chain_ret]
  refine bodyPost_ret (v := .tuple #[.string ⟨#[13]⟩, .int .i64 2, .bool true]) (by simp [results, Tryd.results41, go_sem, *]) rfl ?_
  rw [HN.out]
  exact ⟨rfl, (hcX.trans c1 (fun _ _ e => e))⟩
theorem esc_34 (s : ByteArray) (w : World) (hc : atB s 1 = 34) : Calls Tryd.prog 41 #[.string s] w (Gc (escRes s) w) := by
  have HN : Hid (escRes s = .tuple #[.string ⟨#[34]⟩, .int .i64 2, .bool true]) := Lib.hid (by unfold escRes esc; simp [hc])
  have hin := atB_in (s := s) (i := 1) (by omega)
  have hex : s.extract 1 2 = ⟨#[34]⟩ := extract_one s 1 hin.1 (by rw [← hin.2, hc])
  have g1 : (2 : Int) ≤ (s.size : Int) := by have := hin.1; omega
  clear hin
  have hmf : ∀ (fn : Fn) (first cap : Array Value) (w : World), (Instr.makeFunc fn first cap).run Tryd.prog w = .ok (.func fn first cap) w := fun _ _ _ _ => rfl
  obtain ⟨X, hX⟩ : ∃ X, w.alloc (.cells #[.string s] 9) = X := ⟨_, rfl⟩
  have hcX : Chg Noth w X := by rw [← hX]; exact chg_alloc (Chg.refl _ _) _
  have hcell : X.cell? ⟨w.heap.size, 0, none⟩ = some (.string s) := by rw [← hX]; simp [go_sem]
  have jb : Old w.heap.size X := ⟨by rw [← hX]; simp⟩
  have h1 := atc_v s w.heap.size 1 X hcell jb
  rw [hc, show ((34 : Nat) : Int) = 34 from rfl, show ((1 : Nat) : Int) = 1 from rfl] at h1
  clear hc
  go_enter Tryd.func41, Tryd.ntmps41
  go_wp2
  refine wp_scope_chain 0 fun C hC => ?_
  have HC := Lib.hid hC
  clear hC
  try rw [hX]
  have HX := Lib.hid hX
  clear hX
  go_wp2_with fail
  go_at_call 56
  refine h1.mono ?_
  rintro e X1 ⟨rfl, c1⟩
  obtain ⟨q1, j1⟩ := keepc c1 hcell jb
  clear h1
  go_wp2
  rw [chain_ret]
  refine bodyPost_ret (v := .tuple #[.string ⟨#[34]⟩, .int .i64 2, .bool true]) (by simp [results, Tryd.results41, go_sem, *]) rfl ?_
  rw [HN.out]
  exact ⟨rfl, (hcX.trans c1 (fun _ _ e => e))⟩
theorem esc_92 (s : ByteArray) (w : World) (hc : atB s 1 = 92) : Calls Tryd.prog 41 #[.string s] w (Gc (escRes s) w) := by
  have HN : Hid (escRes s = .tuple #[.string ⟨#[92]⟩, .int .i64 2, .bool true]) := Lib.hid (by unfold escRes esc; simp [hc])
  have hin := atB_in (s := s) (i := 1) (by omega)
  have hex : s.extract 1 2 = ⟨#[92]⟩ := extract_one s 1 hin.1 (by rw [← hin.2, hc])
  have g1 : (2 : Int) ≤ (s.size : Int) := by have := hin.1; omega
  clear hin
  have hmf : ∀ (fn : Fn) (first cap : Array Value) (w : World), (Instr.makeFunc fn first cap).run Tryd.prog w = .ok (.func fn first cap) w := fun _ _ _ _ => rfl
  obtain ⟨X, hX⟩ : ∃ X, w.alloc (.cells #[.string s] 9) = X := ⟨_, rfl⟩
  have hcX : Chg Noth w X := by rw [← hX]; exact chg_alloc (Chg.refl _ _) _
  have hcell : X.cell? ⟨w.heap.size, 0, none⟩ = some (.string s) := by rw [← hX]; simp [go_sem]
  have jb : Old w.heap.size X := ⟨by rw [← hX]; simp⟩
  have h1 := atc_v s w.heap.size 1 X hcell jb
  rw [hc, show ((92 : Nat) : Int) = 92 from rfl, show ((1 : Nat) : Int) = 1 from rfl] at h1
  clear hc
  go_enter Tryd.func41, Tryd.ntmps41
  go_wp2
  refine wp_scope_chain 0 fun C hC => ?_
  have HC := Lib.hid hC
  clear hC
  try rw [hX]
  have HX := Lib.hid hX
  clear hX
  go_wp2_with fail
  go_at_call 56
  refine h1.mono ?_
  rintro e X1 ⟨rfl, c1⟩
  obtain ⟨q1, j1⟩ := keepc c1 hcell jb
  clear h1
  go_wp2
  rw [chain_ret]
  refine bodyPost_ret (v := .tuple #[.string ⟨#[92]⟩, .int .i64 2, .bool true]) (by simp [results, Tryd.results41, go_sem, *]) rfl ?_
  rw [HN.out]
  exact ⟨rfl, (hcX.trans c1 (fun _ _ e => e))⟩
theorem esc_other (s : ByteArray) (w : World) (c : Nat) (hc : atB s 1 = c) (q110 : c ≠ 110) (q116 : c ≠ 116) (q114 : c ≠ 114) (q34 : c ≠ 34) (q92 : c ≠ 92) (q120 : c ≠ 120) (q117 : c ≠ 117) : Calls Tryd.prog 41 #[.string s] w (Gc (escRes s) w) := by
  have HN : Hid (escRes s = .tuple #[.string ⟨#[]⟩, .int .i64 0, .bool false]) := Lib.hid (by unfold escRes esc; simp [hc, q34, q92, q110, q116, q114, q120, q117])
  have z110 : ((c : Int) == 110) = false := by rw [beq_eq_false_iff_ne]; exact fun h => q110 (by exact_mod_cast h)
  have z116 : ((c : Int) == 116) = false := by rw [beq_eq_false_iff_ne]; exact fun h => q116 (by exact_mod_cast h)
  have z114 : ((c : Int) == 114) = false := by rw [beq_eq_false_iff_ne]; exact fun h => q114 (by exact_mod_cast h)
  have z34 : ((c : Int) == 34) = false := by rw [beq_eq_false_iff_ne]; exact fun h => q34 (by exact_mod_cast h)
  have z92 : ((c : Int) == 92) = false := by rw [beq_eq_false_iff_ne]; exact fun h => q92 (by exact_mod_cast h)
  have z120 : ((c : Int) == 120) = false := by rw [beq_eq_false_iff_ne]; exact fun h => q120 (by exact_mod_cast h)
  have z117 : ((c : Int) == 117) = false := by rw [beq_eq_false_iff_ne]; exact fun h => q117 (by exact_mod_cast h)
  clear q34 q92 q110 q116 q114 q120 q117
  have hmf : ∀ (fn : Fn) (first cap : Array Value) (w : World), (Instr.makeFunc fn first cap).run Tryd.prog w = .ok (.func fn first cap) w := fun _ _ _ _ => rfl
  obtain ⟨X, hX⟩ : ∃ X, w.alloc (.cells #[.string s] 9) = X := ⟨_, rfl⟩
  have hcX : Chg Noth w X := by rw [← hX]; exact chg_alloc (Chg.refl _ _) _
  have hcell : X.cell? ⟨w.heap.size, 0, none⟩ = some (.string s) := by rw [← hX]; simp [go_sem]
  have jb : Old w.heap.size X := ⟨by rw [← hX]; simp⟩
  have h1 := atc_v s w.heap.size 1 X hcell jb
  rw [hc, show ((1 : Nat) : Int) = 1 from rfl] at h1
  clear hc
  go_enter Tryd.func41, Tryd.ntmps41
  go_wp2
  refine wp_scope_chain 1 fun C hC => ?_
  have HC := Lib.hid hC
  clear hC
  try rw [hX]
  have HX := Lib.hid hX
  clear hX
  go_wp2_with fail
  go_at_call 56
  refine h1.mono ?_
  rintro e X1 ⟨rfl, c1⟩
  obtain ⟨q1, j1⟩ := keepc c1 hcell jb
  clear h1
  go_wp2
  refine wp_goto ?_
  show Exit.chain _ _ _ 1 (.goto 2) _ _
  simp only [Exit.chain]
  refine ⟨_, (congrArg (findLabel · 2) HC.out).trans rfl, ?_⟩
  go_wp2
  rw [chain_ret]
  refine bodyPost_ret (v := .tuple #[.string ⟨#[]⟩, .int .i64 0, .bool false]) (by simp [results, Tryd.results41, go_sem, *]) rfl ?_
  rw [HN.out]
  exact ⟨rfl, (hcX.trans c1 (fun _ _ e => e))⟩
end Go.Proofs.YtkamjhhaghkdmaaDoor
namespace Go.Proofs.YtkamjhhaghkdmaaDoor
open Go.RowKit Go.Ear
set_option linter.unusedSimpArgs false
set_option linter.unusedVariables false
theorem ofInt_i64 (a : Nat) (ha : a < 9223372036854775808) : (BitVec.ofInt 64 (a : Int)).toNat = a := by
  rw [BitVec.ofInt_natCast, BitVec.toNat_ofNat]; exact Nat.mod_eq_of_lt (by omega)
theorem i64_or_nat (a b : Nat) (ha : a < 1099511627776) (hb : b < 1099511627776) : bits .or .i64 (a : Int) (b : Int) = ((a ||| b : Nat) : Int) := by
  have hx : a ||| b < 2 ^ 40 := Nat.or_lt_two_pow (by omega) (by omega)
  show IntKind.i64.wrap ((BitVec.ofInt 64 (a : Int) ||| BitVec.ofInt 64 (b : Int)).toNat : Int) = _
  rw [BitVec.toNat_or, ofInt_i64 a (by omega), ofInt_i64 b (by omega)]
  refine IntWalk.i64_in _ ?_
  omega
theorem or16 (a b : Nat) (ha : a < 68719476736) (hb : b < 16) : bits .or .i64 ((a : Int) * 16) (b : Int) = ((a * 16 + b : Nat) : Int) := by
  have e : ((a : Int) * 16) = ((a * 16 : Nat) : Int) := by omega
  rw [e, i64_or_nat (a * 16) b (by omega) (by omega)]
  have : a * 16 ||| b = a * 16 + b := by
    rw [show a * 16 = a * 2 ^ 4 by rfl, ← Nat.shiftLeft_eq, Nat.shiftLeft_add_eq_or_of_lt hb]
  rw [this]
theorem encode_rune (r : Int) (h0 : 0 ≤ r) (h1 : r ≤ 1114111) (h2 : ¬ (55296 ≤ r ∧ r ≤ 57343)) : Utf8.encode r = ⟨(Lib.encodeRune r).toArray⟩ := by
  obtain ⟨n, rfl⟩ := Int.eq_ofNat_of_zero_le h0
  have hv : Utf8.valid (n : Int) = true := (valid_iff n).2 (by omega)
  unfold Utf8.encode
  simp only [hv, if_true, Int.toNat_natCast]
  by_cases a : n < 128
  · rw [if_pos a, enc_one (by omega) (by omega)]; rfl
  rw [if_neg a]
  by_cases b : n < 2048
  · rw [if_pos b, enc_two (by omega) (by omega)]
    congr 2
  rw [if_neg b]
  by_cases c : n < 65536
  · rw [if_pos c, enc_three (by omega)]
    congr 2
  · rw [if_neg c, enc_four (by omega) (by omega)]
    congr 2
end Go.Proofs.YtkamjhhaghkdmaaDoor
