/- A text's first character, a sign's node, a numeral's value. -/
import Derived.Test.YtgohhallpkknfaaDoorTar
import Derived.Test.YtgohhallpkknfaaDoorTer
import Derived.Test.YtgohhallpkknfaaDoorTgr
namespace Go.Ear
open Go.RowKit
theorem var_grow {P : Program} {w w' : World} {n : String} {v : Array Value} (h : w.var? P n = some v) (hc : Chg Noth w w') : w'.var? P n = some v := by
  unfold World.var? at *
  cases hg : P.globalNamed n with
  | none => simp [hg] at h
  | some g =>
    simp only [hg, Option.bind_some] at h ⊢
    have hlt : g < w.heap.size := by
      rcases Nat.lt_or_ge g w.heap.size with h' | h'
      · exact h'
      · rw [Array.getElem?_eq_none h'] at h; simp at h
    rw [hc.block g hlt (fun e => e)]
    exact h
/-- The two errors of strconv lie where they were laid. -/
def Errs (P : Program) (w : World) : Prop := (∃ tp p, w.var? P "strconv.ErrSyntax" = some #[.iface tp p]) ∧ ∃ tp p, w.var? P "strconv.ErrRange" = some #[.iface tp p]
theorem Errs.grow {P : Program} {w w' : World} (h : Errs P w) (hc : Chg Noth w w') : Errs P w' := by
  obtain ⟨⟨a, b, h1⟩, c, d, h2⟩ := h
  exact ⟨⟨a, b, var_grow h1 hc⟩, c, d, var_grow h2 hc⟩
/-- How Atoi ends. -/
def AtoTo (d : ByteArray) (w : World) : Ending → World → Prop := fun e w' =>
  ∃ v er, e = .returned (.tuple #[.int .i64 v, er]) ∧ Chg Noth w w' ∧ ((er = .nilIface ∧ Lib.atoiAll d.data.toList = .ok v) ∨ ∃ T b, er = .iface T (.pointer (some ⟨b, 0, none⟩)) ∧ ∀ v, Lib.atoiAll d.data.toList ≠ .ok v)
end Go.Ear
namespace Go.Proofs.YtgohhallpkknfaaDoor
open Go.RowKit Go.Ear Go.Proofs.YtgohhallpkknfaaDoorW.PrintWords Go.Proofs.YtgohhallpkknfaaDoor.PNoticeReads
set_option maxHeartbeats 4000000
set_option maxRecDepth 100000
set_option linter.unusedSimpArgs false
set_option linter.unusedVariables false
theorem atoi_any (d : ByteArray) (w : World) (hd : d.size ≤ 281474976710656) (hE : Errs Tryd.prog w) : Calls Tryd.prog 29 #[.string d] w (AtoTo d w) := by
  obtain ⟨⟨a, b, h1⟩, a', b', h2⟩ := hE
  cases h : Lib.atoiAll d.data.toList with
  | ok v =>
    refine (Tryd.strconv_Atoi_ok d (by omega) v h w).mono ?_
    rintro e w' ⟨rfl, hw⟩
    refine ⟨v, .nilIface, rfl, ?_, .inl ⟨rfl, h⟩⟩
    rcases hw with rfl | ⟨t, rfl⟩
    · exact Chg.refl _ _
    · exact Chg.of_below (Lib.bytesWorld_below _ _ _)
  | range =>
    refine (Tryd.strconv_Atoi_range_var d hd h a' b' w h2).mono ?_
    rintro e w' ⟨N, rfl, _, _, hb⟩
    exact ⟨_, _, rfl, Chg.of_below hb, .inr ⟨_, _, rfl, fun v hv => by rw [h] at hv; cases hv⟩⟩
  | _ =>
    refine (Tryd.strconv_Atoi_syntax_var d hd h a b w h1).mono ?_
    rintro e w' ⟨N, rfl, _, _, hb⟩
    exact ⟨_, _, rfl, Chg.of_below hb, .inr ⟨_, _, rfl, fun v hv => by rw [h] at hv; cases hv⟩⟩
theorem id_any (t : ByteArray) (A : Option Addr) (c : Nat) (m : Option Nat) (l : List Int) (r : Int) (w : World) (h : RosterIs w (.agg #[.string t, .slice A l.length c, .map m]) l) :
    Calls Tryd.prog 27 #[.agg #[.string t, .slice A l.length c, .map m], .int .i32 r] w (Gr (.tuple (if r ∈ l then #[.int .i64 (fnd l r 0), .int .i64 0] else #[.int .i64 0, .int .i64 41])) w) := by
  obtain ⟨t', A', c', m', e, _, _, h4⟩ := h
  simp only [Value.agg.injEq, Array.mk.injEq, List.cons.injEq, Value.string.injEq, Value.slice.injEq, and_true, true_and] at e
  obtain ⟨rfl, ⟨rfl, rfl⟩, rfl⟩ := e
  have hml := mlook_ents l r 0
  have key : ∃ b, (∀ W, Chg Noth w W → (Instr.lookup 25 (.map m) (.int .i32 r) true).run Tryd.prog W = .ok (.tuple #[.int .i64 (if r ∈ l then fnd l r 0 else 0), .bool b]) W) ∧ b = decide (r ∈ l) := by
    rcases h4 with ⟨rfl, hm⟩ | ⟨b, hb, hM⟩
    · cases hm
      exact ⟨false, fun W _ => by kernel_rfl, by simp⟩
    · cases hb
      by_cases hm : r ∈ l
      · rw [if_pos hm] at hml
        refine ⟨true, fun W hW => ?_, by simp [hm]⟩
        rw [if_pos hm]
        exact (hM.grow hW (fun e => e)).lookup_some Tryd.underlying25 Tryd.underlying21 r _ hml
      · rw [if_neg hm] at hml
        refine ⟨false, fun W hW => ?_, by simp [hm]⟩
        rw [if_neg hm]
        exact (hM.grow hW (fun e => e)).lookup_none Tryd.underlying25 Tryd.underlying21 r (by kernel_rfl) hml
  obtain ⟨b, hk, hb⟩ := key
  have hlk := hk (w.alloc (.cells #[.string t, .slice A l.length c, .map m] 27)) (by repeat (with_reducible first | exact Chg.refl _ _ | assumption | refine chg_m ?_ _ | refine chg_g ?_ _ | refine chg_alloc ?_ _ | refine chg_drew ?_ | refine chg_drewN ?_ _ | refine chg_set ?_ _ _ _))
  clear hk hml h4
  by_cases hm : r ∈ l
  · obtain rfl : b = true := by rw [hb]; simp [hm]
    rw [if_pos hm] at hlk ⊢
    generalize fnd l r 0 = i at *
    generalize l.length = n at *
    clear hb hm
    go_enter Tryd.func27, Tryd.ntmps27
    go_wp2
    go_ret2
    exact gr_mk rfl (by repeat (with_reducible first | exact Chg.refl _ _ | assumption | refine chg_m ?_ _ | refine chg_g ?_ _ | refine chg_alloc ?_ _ | refine chg_drew ?_ | refine chg_drewN ?_ _ | refine chg_set ?_ _ _ _))
  · obtain rfl : b = false := by rw [hb]; simp [hm]
    rw [if_neg hm] at hlk ⊢
    generalize l.length = n at *
    clear hb hm
    go_enter Tryd.func27, Tryd.ntmps27
    go_wp2
    go_ret2
    exact gr_mk rfl (by repeat (with_reducible first | exact Chg.refl _ _ | assumption | refine chg_m ?_ _ | refine chg_g ?_ _ | refine chg_alloc ?_ _ | refine chg_drew ?_ | refine chg_drewN ?_ _ | refine chg_set ?_ _ _ _))
theorem char_any (s : ByteArray) (i : Nat) (w : World) (hi : i < s.size) : Calls Tryd.prog 40 #[.string s, .int .i64 i, .int .i32 (rn s i)] w (Gr (.agg #[.int .i32 (rn s i), .int .i64 i, .int .i64 (wd s i), .bool (lo s i)]) w) := by
  refine (glyph_char.calls 3 s i (rn s i) _ _ _ _ w (char_eq 0 s i hi)).mono ?_
  rintro e w' ⟨rfl, hb⟩
  exact gr_mk rfl (Chg.of_below (by first | exact hb | exact hb.below))
theorem first_any (s : ByteArray) (w : World) (hi : 0 < s.size) : Calls Tryd.prog 26 #[.string s] w (Gr (.agg #[.int .i32 (rn s 0), .int .i64 0, .int .i64 (wd s 0), .bool (lo s 0)]) w) := by
  have hch := char_any s 0
  rw [show ((0 : Nat) : Int) = 0 from rfl] at hch
  have HS := Lib.hid hi
  go_enter Tryd.func26, Tryd.ntmps26
  go_wp2
  go_loopw [] (fun wr => wr = (w.alloc (.cells #[.int .i32 0, .int .i64 0, .int .i64 0, .bool false] 61)).iter s 0) (fun wr => 0)
  case atStart => rfl
  case round =>
    subst hrel
    have hit := World.iter_heap (w.alloc (.cells #[.int .i32 0, .int .i64 0, .int .i64 0, .bool false] 61)) s 0
    have hsz : (w.alloc (.cells #[.int .i32 0, .int .i64 0, .int .i64 0, .bool false] 61)).heap.size = w.heap.size + 1 := by simp
    rw [hsz] at hit
    have hnx : ∀ ty, (Instr.next (.pointer (some ⟨w.heap.size + 1, 0, none⟩)) true ty).run Tryd.prog ((w.alloc (.cells #[.int .i32 0, .int .i64 0, .int .i64 0, .bool false] 61)).iter s 0) = _ := fun ty => Lib.run_next_any_at _ (w.heap.size + 1) s 0 ty hit hi
    simp only [← show rn s 0 = ((Utf8.decode s 0).1 : Int) from rfl, ← show wd s 0 = (Utf8.decode s 0).2 from rfl] at hnx
    obtain ⟨W2, hW2⟩ : ∃ W2, World.iterAt ((w.alloc (.cells #[.int .i32 0, .int .i64 0, .int .i64 0, .bool false] 61)).iter s 0) (w.heap.size + 1) s (0 + wd s 0) = W2 := ⟨_, rfl⟩
    have hcw : Chg Noth w W2 := by rw [← hW2]; exact iterAt_chg (chg_alloc (chg_alloc (Chg.refl _ _) _) _) (by omega) _ _
    have hb : W2.heap[w.heap.size]? = some (.cells #[.int .i32 0, .int .i64 0, .int .i64 0, .bool false] 61 (0, 0)) := by
      rw [← hW2]
      refine (Lib.iterAt_other _ _ _ _ _ (by omega)).trans ?_
      exact (Below.heap_alloc _ _ _ (by simp)).trans (heap_alloc_new _ _)
    rw [hW2] at hnx
    have jz : Old w.heap.size W2 := ⟨(Array.getElem?_eq_some_iff.1 hb).1⟩
    have z0 : W2.cell? ⟨w.heap.size, 0, none⟩ = some (.int .i32 0) := (cell_of_row _ _ _ _ _ _ hb).trans rfl
    have z1 : W2.cell? ⟨w.heap.size, 1, none⟩ = some (.int .i64 0) := (cell_of_row _ _ _ _ _ _ hb).trans rfl
    have z2 : W2.cell? ⟨w.heap.size, 2, none⟩ = some (.int .i64 0) := (cell_of_row _ _ _ _ _ _ hb).trans rfl
    have z3 : W2.cell? ⟨w.heap.size, 3, none⟩ = some (.bool false) := (cell_of_row _ _ _ _ _ _ hb).trans rfl
    have k0 : HasCell W2 w.heap.size 0 := ⟨by rw [z0]; rfl⟩
    have k1 : HasCell W2 w.heap.size 1 := ⟨by rw [z1]; rfl⟩
    have k2 : HasCell W2 w.heap.size 2 := ⟨by rw [z2]; rfl⟩
    have k3 : HasCell W2 w.heap.size 3 := ⟨by rw [z3]; rfl⟩
    have fz : ∀ i, W2.frozen? ⟨w.heap.size, i, none⟩ = false := fun i => frozen_of_row _ _ _ _ _ hb
    have HC := Lib.hid hcw
    clear hcw hb hit hsz hW2
    have hch := fun W => hch W HS.out
    generalize rn s 0 = r at *
    generalize wd s 0 = n at *
    generalize lo s 0 = b at *
    go_wp2_with (go_at_call 40; refine (hch _).mono ?_; rintro e w' ⟨rfl, g, rfl⟩)
    refine bodyPost_ret (v := .agg #[.int .i32 r, .int .i64 0, .int .i64 n, .bool b]) (by simp [results, Tryd.results26, go_sem, *]) rfl ?_
    exact gr_mk rfl (by repeat (with_reducible first | exact Chg.refl _ _ | exact HC.out | assumption | refine chg_m ?_ _ | refine chg_g ?_ _ | refine chg_alloc ?_ _ | refine chg_drew ?_ | refine chg_drewN ?_ _ | refine chg_set ?_ _ _ _))
end Go.Proofs.YtgohhallpkknfaaDoor
