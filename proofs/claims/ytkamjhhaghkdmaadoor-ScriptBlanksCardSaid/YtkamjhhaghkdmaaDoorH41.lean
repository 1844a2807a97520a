/- What a quoted text says: the walk. -/
import Derived.Test.YtkamjhhaghkdmaaDoorH40
import Derived.Test.YtkamjhhaghkdmaaDoorH27
import Derived.Test.YtkamjhhaghkdmaaDoorH28
namespace Go.Proofs.YtkamjhhaghkdmaaDoor
open Go.RowKit Go.Ear Go.Proofs.YtkamjhhaghkdmaaDoorW.PrintWords Go.Proofs.YtkamjhhaghkdmaaDoor.PScriptLines
set_option maxHeartbeats 4000000
set_option maxRecDepth 100000
set_option linter.unusedSimpArgs false
set_option linter.unusedVariables false
/-- What Unquote answers. -/
def unqVal (R : Except (Int × Nat) (List UInt8)) : Value := match R with
  | .error (e, p) => .tuple #[.string ⟨#[]⟩, .int .i64 (p : Int), .int .i64 e]
  | .ok b => .tuple #[.string ⟨b.toArray⟩, .int .i64 0, .int .i64 0]
theorem prefix34 (s : ByteArray) : Lib.hasPrefix s.data.toList [34] = decide (atB s 0 = 34) := by
  unfold Lib.hasPrefix
  by_cases h : 0 < s.size
  · have hb := list_by s h
    have hl : 0 < s.data.toList.length := (List.getElem?_eq_some_iff.1 hb).1
    have e : s.data.toList = UInt8.ofNat (by' s 0) :: s.data.toList.drop 1 := by
      have := List.drop_eq_getElem_cons hl
      rw [List.drop_zero] at this
      rw [(List.getElem?_eq_some_iff.1 hb).2] at this
      exact this
    have ha : atB s 0 = by' s 0 := by unfold atB; rw [if_pos h]
    rw [e, ha]
    have hlt := by_lt s 0
    rw [Bool.eq_iff_iff]
    simp only [List.isPrefixOf, Bool.and_true, beq_iff_eq, decide_eq_true_eq]
    constructor
    · intro h
      have := congrArg UInt8.toNat h
      rw [ofNat_toNat hlt] at this
      simp at this
      omega
    · intro h
      rw [h]
      rfl
  · have e : s.data.toList = [] := by
      apply List.eq_nil_of_length_eq_zero
      have : s.data.toList.length = s.size := by simp
      omega
    rw [e]
    unfold atB
    rw [if_neg h]
    rfl
theorem unquote_any (s : ByteArray) (w : World) : Calls Tryd.prog 33 #[.string s] w (Gc (unqVal (unq s)) w) := by
  have hpf := Tryd.strings_HasPrefix s ⟨#[34]⟩
  rw [show (⟨#[34]⟩ : ByteArray).data.toList = [34] from rfl, prefix34] at hpf
  rw [unq_uq]
  by_cases hbig : 65536 < s.size
  · have x1 : decide ((65536 : Int) < (s.size : Int)) = true := decide_eq_true (by omega)
    rw [if_pos hbig]
    clear hpf hbig
    go_enter Tryd.func33, Tryd.ntmps33
    go_wp2
    refine bodyPost_ret (v := .tuple #[.string ⟨#[]⟩, .int .i64 0, .int .i64 2]) (by simp [results, Tryd.results33, go_sem]) rfl ?_
    exact ⟨rfl, Chg.refl _ _⟩
  rw [if_neg hbig]
  have x1 : decide ((65536 : Int) < (s.size : Int)) = false := decide_eq_false (by omega)
  by_cases h34 : atB s 0 = 34
  · rw [if_pos h34]
    rw [decide_eq_true h34] at hpf
    have hs0 : 0 < s.size := (atB_in (s := s) (i := 0) (by omega)).1
    obtain ⟨R, hR⟩ : ∃ R, uq s 1 [] = R := ⟨_, rfl⟩
    rw [hR]
    have HH := Lib.hid (And.intro hR (And.intro hs0 hbig))
    clear hR hs0 hbig h34
    go_enter Tryd.func33, Tryd.ntmps33
    go_wp2_with (go_at_call 50; refine (hpf _).mono ?_; rintro e w' ⟨rfl, rfl⟩)
    go_loopw [6] (fun i wr => ∃ (p : Nat) (out : List UInt8), i = .int .i64 p ∧ p ≤ s.size ∧ 1 ≤ p ∧ out.length ≤ 4 * p ∧ Lib.IsBuilder 115 5 w'.heap.size w'.heap.size (Lib.byteCells out) wr ∧ Below w'.heap.size w' wr ∧ uq s p out = R) (fun i wr => s.size - (intOf i).toNat)
    case atStart => exact ⟨1, [], rfl, by have := HH.out.2.1; omega, by omega, by simp, bu_new _, (Below.refl _ _).alloc (Nat.le_refl _) _, HH.out.1⟩
    case round =>
      obtain ⟨p, out, rfl, hp, hp1, hol, hbu, hbl, hR⟩ := hrel
      by_cases hlt : p < s.size
      · have x2 : decide (p < s.size) = true := decide_eq_true hlt
        have g2 : (p : Int) ≤ (s.size : Int) := by omega
        have g3 : (0 : Int) ≤ (p : Int) := by omega
        have hsz := HH.out.2.2
        obtain ⟨t, hxt⟩ : ∃ t, s.extract p s.size = t := ⟨_, rfl⟩
        have hF := fun W => gr_gc (first_any t W (by rw [← hxt, size_ext]; omega))
        have e1 : rn t 0 = rn s p := by rw [← hxt, rn_ext, Nat.add_zero]
        have e2 : wd t 0 = wd s p := by rw [← hxt, wd_ext, Nat.add_zero]
        have e3 : lo t 0 = lo s p := by rw [← hxt, lo_ext, Nat.add_zero]
        rw [e1, e2, e3] at hF
        rw [uq_step out hlt] at hR
        by_cases h34 : rn s p = 34
        · rw [if_pos h34] at hR
          rw [h34] at hF
          obtain ⟨p1, hp1'⟩ : ∃ p1, p + 1 = p1 := ⟨_, rfl⟩
          have wp1 : wrap64 ((p : Int) + 1) = (p1 : Int) := by
            have h := wid (x := (p : Int) + 1) (by omega) (by omega)
            rw [h]
            omega
          by_cases hin : p1 < s.size
          · rw [hp1', if_pos hin] at hR
            have x3 : decide (p1 < s.size) = true := decide_eq_true hin
            have HK := Lib.hid (And.intro hR (And.intro hbl hbu))
            clear hR hbl hbu hol hlt hp hp1 hp1' hin hsz h34 e1 e2 e3
            go_wp2_with (go_at_call 21; refine (hF _).mono ?_; rintro e X ⟨rfl, cX⟩)
            refine bodyPost_ret (v := .tuple #[.string ⟨#[]⟩, .int .i64 (p1 : Int), .int .i64 11]) (by simp [results, Tryd.results33, go_sem, wp1]) rfl ?_
            rw [← HK.out.1]
            exact ⟨rfl, chg_alloc ((Chg.of_below HK.out.2.1).trans cX (fun _ _ e => e)) _⟩
          · rw [hp1', if_neg hin] at hR
            have x3 : decide (p1 < s.size) = false := decide_eq_false hin
            have HK := Lib.hid (And.intro hR (And.intro hbl hbu))
            clear hR hbl hbu hol hlt hp hp1 hp1' hin hsz h34 e1 e2 e3
            go_wp2_with fail
            go_at_call 21
            refine (hF _).mono ?_
            rintro e X ⟨rfl, cX⟩
            go_wp2_with fail
            go_at_call 51
            refine (Tryd.Builder_String_any _ _ out _ (bu_grow (bu_grow HK.out.2.2 cX) (chg_alloc (Chg.refl _ _) _)) (by have := HK.out.2.1.size; have := cX.size; simp; omega)).mono ?_
            rintro e Z ⟨rfl, hZ⟩
            go_wp2_with fail
            refine bodyPost_ret (v := .tuple #[.string ⟨out.toArray⟩, .int .i64 0, .int .i64 0]) (by simp [results, Tryd.results33, go_sem]) rfl ?_
            rw [← HK.out.1]
            have hall : Below w'.heap.size w' Z := (HK.out.2.1.trans ((chg_alloc cX _).below.mono HK.out.2.1.size)).trans hZ
            exact ⟨rfl, Chg.of_below hall⟩
        rw [if_neg h34] at hR
        by_cases h92 : rn s p = 92
        · rw [if_pos h92] at hR
          rw [h92] at hF
          have h0 := (at_rn hlt (c := 92) (by omega) h92).1
          have hex : esc t 0 = esc s p := by rw [← hxt, esc_ext]
          have hE := fun W => escape_v t W
          unfold escRes at hE
          rw [hex] at hE
          cases he : esc s p with
          | none =>
            rw [he] at hE hR
            simp only at hE hR
            have HK := Lib.hid (And.intro hR (And.intro hbl hbu))
            clear hR hbl hbu hol hlt hp hp1 hsz h34 h92 e1 e2 e3 h0 hex he
            go_wp2_with (first | (go_at_call 21; refine (hF _).mono ?_; rintro e X ⟨rfl, cX⟩) | (go_at_call 41; refine (hE _).mono ?_; rintro e Z ⟨rfl, cZ⟩))
            refine bodyPost_ret (v := .tuple #[.string ⟨#[]⟩, .int .i64 (p : Int), .int .i64 12]) (by simp [results, Tryd.results33, go_sem]) rfl ?_
            rw [← HK.out.1]
            exact ⟨rfl, (chg_alloc ((Chg.of_below HK.out.2.1).trans cX (fun _ _ e => e)) _).trans cZ (fun _ _ e => e)⟩
          | some x =>
            obtain ⟨bb, n⟩ := x
            rw [he] at hE hR
            simp only at hE hR
            obtain ⟨hle, hn2, hn11, _⟩ := cnt_esc s p h0 he
            have hb4 := esc_len s p he
            have wpn : wrap64 ((p : Int) + (n : Int)) = ((p + n : Nat) : Int) := by rw [wid] <;> omega
            have HK := Lib.hid (And.intro hR (And.intro hbl (And.intro hbu (And.intro hle (And.intro hn2 (And.intro hb4 (And.intro hol (And.intro hp1 hsz))))))))
            clear hR hbl hbu hol hlt hp hp1 hsz h34 h92 e1 e2 e3 h0 hex he hle hn2 hn11 hb4
            go_wp2_with fail
            go_at_call 21
            refine (hF _).mono ?_
            rintro e X ⟨rfl, cX⟩
            go_wp2_with fail
            go_at_call 41
            refine (hE _).mono ?_
            rintro e Z ⟨rfl, cZ⟩
            have hcZ : Chg Noth wr Z := (chg_alloc cX _).trans cZ (fun _ _ e => e)
            have HZ := Lib.hid hcZ
            clear cX cZ hcZ
            go_wp2_with fail
            go_at_call 52
            refine (write_any _ _ _ ⟨bb.toArray⟩ _ (bu_grow HK.out.2.2.1 HZ.out) (by have h1 := HK.out.2.2.2; rw [Lib.byteCells_length]; show _ + bb.toArray.size ≤ _; simp; omega) (by have := HK.out.2.1.size; have := HZ.out.size; omega)).mono ?_
            rintro e V ⟨rfl, hbv, hbV, _⟩
            have HV := Lib.hid (And.intro hbv hbV)
            clear hbv hbV
            go_wp2_with fail
            go_roundw
            case rel =>
              have h1 := HK.out
              refine ⟨p + n, out ++ bb, by rw [wpn], h1.2.2.2.1, by omega, by rw [List.length_append]; omega, .inr ?_, ?_, h1.1⟩
              · rw [show Lib.byteCells (out ++ bb) = Lib.byteCells out ++ Lib.strCells ⟨bb.toArray⟩ by unfold Lib.byteCells Lib.strCells; simp]
                exact HV.out.1
              · exact (h1.2.1.trans (HZ.out.below.mono h1.2.1.size)).trans HV.out.2
            case measure => have h1 := HK.out; rw [wpn]; simp [intOf]; omega
        · rw [if_neg h92] at hR
          have y34 : (rn s p == 34) = false := beq_eq_false_iff_ne.2 h34
          have y92 : (rn s p == 92) = false := beq_eq_false_iff_ne.2 h92
          have hS := fun W => stands_any s p W
          cases hst : stands s p with
          | false =>
            rw [hst] at hS hR
            rw [if_neg (by simp)] at hR
            have HK := Lib.hid (And.intro hR (And.intro hbl hbu))
            clear hR hbl hbu hol hlt hp hp1 hsz h34 h92 e1 e2 e3 hst
            go_wp2_with (first | (go_at_call 21; refine (hF _).mono ?_; rintro e X ⟨rfl, cX⟩) | (go_at_call 42; refine (hS _).mono ?_; rintro e Z ⟨rfl, cZ⟩))
            refine bodyPost_ret (v := .tuple #[.string ⟨#[]⟩, .int .i64 (p : Int), .int .i64 10]) (by simp [results, Tryd.results33, go_sem]) rfl ?_
            rw [← HK.out.1]
            exact ⟨rfl, (chg_alloc ((Chg.of_below HK.out.2.1).trans cX (fun _ _ e => e)) _).trans cZ (fun _ _ e => e)⟩
          | true =>
            rw [hst] at hS hR
            rw [if_pos rfl] at hR
            have hwl := wd_le s p hlt
            have hwp := wd_pos s p
            have hsub := ext_sub s p (wd s p)
            obtain ⟨n, hn⟩ : ∃ n, wd s p = n := ⟨_, rfl⟩
            rw [hn] at hF hS hR hwl hwp hsub
            have wpn : wrap64 ((p : Int) + (n : Int)) = ((p + n : Nat) : Int) := by rw [wid] <;> omega
            have q1 : ((p + n : Nat) : Int) ≤ (s.size : Int) := by omega
            have q2 : (p : Int) ≤ ((p + n : Nat) : Int) := by omega
            have HK := Lib.hid (And.intro hR (And.intro hbl (And.intro hbu (And.intro hwl (And.intro hwp (And.intro hsub (And.intro hol (And.intro hp1 hsz))))))))
            clear hR hbl hbu hol hlt hp hp1 hsz h34 h92 e1 e2 e3 hst hwl hwp hsub hn
            go_wp2_with fail
            go_at_call 21
            refine (hF _).mono ?_
            rintro e X ⟨rfl, cX⟩
            go_wp2_with fail
            go_at_call 42
            refine (hS _).mono ?_
            rintro e Z ⟨rfl, cZ⟩
            have hcZ : Chg Noth wr Z := (chg_alloc cX _).trans cZ (fun _ _ e => e)
            have hch : Z.heap[X.heap.size]? = some (.cells #[.int .i32 (rn s p), .int .i64 0, .int .i64 (n : Int), .bool (lo s p)] 68 (0, 0)) := (cZ.block _ (by simp) (fun e => e)).trans (heap_alloc_new _ _)
            have z2 : Z.cell? ⟨X.heap.size, 2, none⟩ = some (.int .i64 (n : Int)) := by rw [cell_of_row _ _ 2 _ _ _ hch]; rfl
            have HZ := Lib.hid (And.intro hcZ (And.intro hch cX.size))
            clear cX cZ hcZ hch
            go_wp2_with fail
            go_at_call 52
            have hw := write_any _ _ _ (s.extract p (p + n)) _ (bu_grow HK.out.2.2.1 HZ.out.1) (by have h1 := HK.out.2.2.2; rw [Lib.byteCells_length, ByteArray.size_extract]; omega) (by have := HK.out.2.1.size; have := HZ.out.1.size; omega)
            refine hw.mono ?_
            rintro e V ⟨rfl, hbv, hbV, hkV⟩
            have hne : X.heap.size ≠ w'.heap.size := by
              have h1 := HK.out.2.2.1
              have h2 : w'.heap.size < wr.heap.size := by
                rcases h1 with ⟨_, v, h1, _⟩ | ⟨_, v, h1, _⟩ <;> exact (Array.getElem?_eq_some_iff.1 h1).1
              have := HZ.out.2.2
              omega
            have hcV := hkV _ _ HZ.out.2.1 hne (by intro cs fr e; simp at e)
            have v2 : V.cell? ⟨X.heap.size, 2, none⟩ = some (.int .i64 (n : Int)) := by rw [cell_of_row _ _ 2 _ _ _ hcV]; rfl
            have HV := Lib.hid (And.intro hbv hbV)
            clear hbv hbV hkV hcV hne hw
            go_wp2_with fail
            go_roundw
            case rel =>
              have h1 := HK.out
              refine ⟨p + n, out ++ sub s p n, by rw [wpn], h1.2.2.2.1, by omega, ?_, .inr ?_, ?_, h1.1⟩
              · have : (sub s p n).length ≤ n := by unfold sub; simp; omega
                rw [List.length_append]
                omega
              · rw [show Lib.byteCells (out ++ sub s p n) = Lib.byteCells out ++ Lib.strCells (s.extract p (p + n)) by rw [h1.2.2.2.2.2.1]; unfold Lib.byteCells Lib.strCells; simp]
                exact HV.out.1
              · exact (h1.2.1.trans (HZ.out.1.below.mono h1.2.1.size)).trans HV.out.2
            case measure => have h1 := HK.out; rw [wpn]; simp [intOf]; omega
      · have x2 : decide (p < s.size) = false := decide_eq_false hlt
        rw [uq_end out hlt] at hR
        have HK := Lib.hid (And.intro hR hbl)
        clear hR hbl hbu hol hlt hp hp1
        go_wp2
        refine bodyPost_ret (v := .tuple #[.string ⟨#[]⟩, .int .i64 (s.size : Int), .int .i64 11]) (by simp [results, Tryd.results33, go_sem]) rfl ?_
        rw [← HK.out.1]
        exact ⟨rfl, Chg.of_below HK.out.2⟩
  · rw [if_neg h34]
    rw [decide_eq_false h34] at hpf
    clear hbig h34
    go_enter Tryd.func33, Tryd.ntmps33
    go_wp2_with (go_at_call 50; refine (hpf _).mono ?_; rintro e w' ⟨rfl, rfl⟩)
    refine bodyPost_ret (v := .tuple #[.string ⟨#[]⟩, .int .i64 0, .int .i64 11]) (by simp [results, Tryd.results33, go_sem]) rfl ?_
    exact ⟨rfl, Chg.refl _ _⟩
end Go.Proofs.YtkamjhhaghkdmaaDoor
