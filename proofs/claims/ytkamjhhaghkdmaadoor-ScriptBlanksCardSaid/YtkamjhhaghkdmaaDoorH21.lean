/- Words of a line: texts cut, plain. Words of a line: the counting of characters, a line's take, the runs. -/
import Derived.Test.YtkamjhhaghkdmaaDoorH20
import Derived.Test.YtkamjhhaghkdmaaDoorH18
namespace Go.Ear
set_option linter.unusedSimpArgs false
set_option linter.unusedVariables false
theorem by_out (s : ByteArray) {i : Nat} (h : s.size ≤ i) : by' s i = 0 := by
  unfold by'
  have : s.get! i = 0 := by
    show s.data[i]! = 0
    rw [getElem!_neg s.data i (by show ¬ i < s.size; omega)]
    rfl
  rw [this]
  rfl
theorem by_in (s : ByteArray) {i : Nat} (h : i < s.size) : s.data.toList[i]? = some (UInt8.ofNat (by' s i)) := list_by s h
theorem list_ext (s : ByteArray) (i : Nat) : (s.extract i s.size).data.toList = s.data.toList.drop i := by
  have h := ByteArray.data_extract (a := s) (b := i) (e := s.size)
  rw [h, Array.toList_extract]
  rw [List.extract_eq_take_drop]
  rw [List.take_of_length_le (by simp)]
theorem size_ext (s : ByteArray) (i : Nat) : (s.extract i s.size).size = s.size - i := by
  rw [ByteArray.size_extract]
  omega
theorem by_ext (s : ByteArray) (i k : Nat) : by' (s.extract i s.size) k = by' s (i + k) := by
  by_cases h : i + k < s.size
  · have h1 := list_by (s.extract i s.size) (i := k) (by rw [size_ext]; omega)
    rw [list_ext, List.getElem?_drop] at h1
    have h2 := list_by s h
    rw [h2] at h1
    injection h1 with h1
    have := congrArg UInt8.toNat h1
    rw [ofNat_toNat (by_lt _ _), ofNat_toNat (by_lt _ _)] at this
    exact this.symm
  · rw [by_out s (by omega), by_out (s.extract i s.size) (by rw [size_ext]; omega)]
theorem go_ext (s : ByteArray) (i k : Nat) : go (s.extract i s.size) k ↔ go s (i + k) := by
  unfold go
  rw [by_ext, size_ext]
  constructor <;> (intro h; refine ⟨by omega, h.2⟩)
theorem dec_ext (s : ByteArray) (i k : Nat) : Utf8.decode (s.extract i s.size) k = Utf8.decode s (i + k) := by
  rw [decode_eq, decode_eq]
  unfold decT
  simp only [by_ext, go_ext, Nat.add_assoc]
theorem rn_ext (s : ByteArray) (i k : Nat) : rn (s.extract i s.size) k = rn s (i + k) := by unfold rn; rw [dec_ext]
theorem wd_ext (s : ByteArray) (i k : Nat) : wd (s.extract i s.size) k = wd s (i + k) := by unfold wd; rw [dec_ext]
theorem lo_ext (s : ByteArray) (i k : Nat) : lo (s.extract i s.size) k = lo s (i + k) := by unfold lo; rw [dec_ext]
theorem atB_ext (s : ByteArray) (i k : Nat) : atB (s.extract i s.size) k = atB s (i + k) := by
  unfold atB
  rw [by_ext, size_ext]
  by_cases h : i + k < s.size
  · rw [if_pos h, if_pos (by omega)]
  · rw [if_neg h, if_neg (by omega)]
theorem hexF_ext (s : ByteArray) (k : Nat) : ∀ f i v, hexF (s.extract k s.size) f i v = ((hexF s f (k + i) v).1, (hexF s f (k + i) v).2 - k)
  | 0, i, v => by simp [hexF]
  | f + 1, i, v => by
    simp only [hexF, atB_ext]
    by_cases h : 0 ≤ hexV (atB s (k + i))
    · rw [if_pos h, if_pos h, hexF_ext s k f, Nat.add_assoc]
    · rw [if_neg h, if_neg h]
      simp
theorem hexF_le (s : ByteArray) : ∀ f i v, i ≤ (hexF s f i v).2 ∧ (hexF s f i v).2 ≤ i + f
  | 0, i, v => by simp [hexF]
  | f + 1, i, v => by
    simp only [hexF]
    by_cases h : 0 ≤ hexV (atB s i)
    · rw [if_pos h]
      have := hexF_le s f (i + 1) (v * 16 + (hexV (atB s i)).toNat)
      omega
    · rw [if_neg h]
      simp
theorem runF_more (s : ByteArray) : ∀ (f g p n : Nat), s.size ≤ p + f → s.size ≤ p + g → runF s f p n = runF s g p n
  | 0, 0, p, n, _, _ => rfl
  | 0, g + 1, p, n, h, _ => by simp [runF, show ¬ p < s.size by omega]
  | f + 1, 0, p, n, _, h => by simp [runF, show ¬ p < s.size by omega]
  | f + 1, g + 1, p, n, h, h' => by
    have := wd_pos s p
    simp only [runF]
    rw [runF_more s f g (p + wd s p) (n + 1) (by omega) (by omega)]
theorem runF_le (s : ByteArray) : ∀ (f p n : Nat), p ≤ s.size → p ≤ (runF s f p n).1 ∧ (runF s f p n).1 ≤ s.size ∧ n ≤ (runF s f p n).2 ∧ (runF s f p n).2 ≤ n + ((runF s f p n).1 - p)
  | 0, p, n, h => by simp [runF, h]
  | f + 1, p, n, h => by
    have hw := wd_pos s p
    simp only [runF]
    by_cases hp : p < s.size
    · have hl := wd_le s p hp
      rw [if_pos hp]
      by_cases hc : cls (rn s p) = 3 ∨ cls (rn s p) = 4
      · rw [if_pos hc]
        have := runF_le s f (p + wd s p) (n + 1) hl
        omega
      · rw [if_neg hc]
        simp [h]
    · rw [if_neg hp]
      simp [h]
/-- Runs go on: what is read so far. -/
def runs (s : ByteArray) (p n : Nat) : Nat × Nat := runF s (s.size - p) p n
theorem runs_step {s : ByteArray} {p : Nat} (n : Nat) (h : p < s.size) : runs s p n = if cls (rn s p) = 3 ∨ cls (rn s p) = 4 then runs s (p + wd s p) (n + 1) else (p, n) := by
  have hw := wd_pos s p
  unfold runs
  obtain ⟨f, hf⟩ : ∃ f, s.size - p = f + 1 := ⟨s.size - p - 1, by omega⟩
  rw [hf]
  simp only [runF]
  rw [if_pos h]
  rw [runF_more s f (s.size - (p + wd s p)) _ _ (by omega) (by omega)]
theorem runs_end {s : ByteArray} {p : Nat} (n : Nat) (h : ¬ p < s.size) : runs s p n = (p, n) := by
  unfold runs
  rw [show s.size - p = 0 by omega]
  rfl
theorem runs_ext (s : ByteArray) (i : Nat) : ∀ (m p n : Nat), s.size - i - p = m → i + p ≤ s.size → runs (s.extract i s.size) p n = ((runs s (i + p) n).1 - i, (runs s (i + p) n).2) := by
  intro m
  induction m using Nat.strongRecOn with
  | ind m ih =>
    intro p n hm hp
    by_cases h : i + p < s.size
    · have hw := wd_pos s (i + p)
      have hl := wd_le s (i + p) h
      rw [runs_step n h, runs_step n (show p < (s.extract i s.size).size by rw [size_ext]; omega), rn_ext, wd_ext]
      by_cases hc : cls (rn s (i + p)) = 3 ∨ cls (rn s (i + p)) = 4
      · rw [if_pos hc, if_pos hc, ih (s.size - i - (p + wd s (i + p))) (by omega) _ _ rfl (by omega), Nat.add_assoc]
      · rw [if_neg hc, if_neg hc]
        simp
    · rw [runs_end n h, runs_end n (show ¬ p < (s.extract i s.size).size by rw [size_ext]; omega)]
      simp
/-- How many characters a text has. -/
theorem runes_len_le (s : ByteArray) : ∀ (m p : Nat), s.size - p = m → (runes s p).length ≤ s.size - p := by
  intro m
  induction m using Nat.strongRecOn with
  | ind m ih =>
    intro p hm
    by_cases h : p < s.size
    · have hw := wd_pos s p
      have := ih (s.size - (p + wd s p)) (by omega) _ rfl
      rw [runes_step h, List.length_cons]
      omega
    · rw [runes_end h]
      simp
end Go.Ear
namespace Go.Proofs.YtkamjhhaghkdmaaDoor
open Go.RowKit Go.Ear Go.Proofs.YtkamjhhaghkdmaaDoorW.PrintWords Go.Proofs.YtkamjhhaghkdmaaDoor.PScriptLines
set_option maxHeartbeats 4000000
set_option maxRecDepth 100000
set_option linter.unusedSimpArgs false
set_option linter.unusedVariables false
theorem wrapN {n : Nat} (h : n ≤ 1000000000000000) : wrap64 (n : Int) = (n : Int) := wid (by omega) (by omega)
theorem count_any (s : ByteArray) (w : World) (hs : s.size ≤ 100000000000) : Calls Tryd.prog 14 #[.string s] w (Gr (.int .i64 (cnt s)) w) := by
  have HS := Lib.hid hs
  clear hs
  go_enter Tryd.func14, Tryd.ntmps14
  go_wp2
  go_loopw [3] (fun n wr => ∃ (p k : Nat), Chg Noth w wr ∧ n = .int .i64 (k : Int) ∧ wr.heap[w.heap.size]? = some (.stringIter s p) ∧ p ≤ s.size ∧ k + (runes s p).length = cnt s) (fun n wr => s.size - wr.iterPos w.heap.size)
  case atStart =>
    exact ⟨0, 0, chg_alloc (Chg.refl _ _) _, rfl, World.iter_heap w s 0, by omega, by simp [cnt]⟩
  case round =>
    obtain ⟨p, k, hc, rfl, hit, hp, hk⟩ := hrel
    have hsz : w.heap.size < wr.heap.size := (Array.getElem?_eq_some_iff.1 hit).1
    by_cases hlt : p < s.size
    · have hnx : ∀ ty, (Instr.next (.pointer (some ⟨w.heap.size, 0, none⟩)) true ty).run Tryd.prog wr = _ := fun ty => Lib.run_next_any_at wr w.heap.size s p ty hit hlt
      have hwd := wd_pos s p
      have hwl := wd_le s p hlt
      simp only [← show rn s p = ((Utf8.decode s p).1 : Int) from rfl, ← show wd s p = (Utf8.decode s p).2 from rfl] at hnx
      obtain ⟨W2, hW2⟩ : ∃ W2, wr.iterAt w.heap.size s (p + wd s p) = W2 := ⟨_, rfl⟩
      have hcw : Chg Noth w W2 := by rw [← hW2]; exact iterAt_chg hc (by omega) _ _
      have hit2 : W2.heap[w.heap.size]? = some (.stringIter s (p + wd s p)) := by rw [← hW2]; exact Lib.iterAt_heap _ _ _ _ _ hit
      rw [hW2] at hnx
      rw [runes_step hlt, List.length_cons] at hk
      have hk1 : wrap64 ((k : Int) + 1) = ((k + 1 : Nat) : Int) := by
        rw [wid]
        · omega
        · omega
        · have := runes_len_le s _ 0 rfl
          have := HS.out
          have e : cnt s = (runes s 0).length := rfl
          omega
      have H := Lib.hid (And.intro hcw (And.intro hit2 (And.intro hit hk)))
      clear hcw hit2 hit hk hc hW2
      go_wp2
      refine ⟨⟨p + wd s p, k + 1, H.out.1, by rw [hk1], H.out.2.1, hwl, by have := H.out.2.2.2; omega⟩, ?_⟩
      simp only [World.iterPos, H.out.2.1, H.out.2.2.1]
      omega
    · have hnx : ∀ ty, (Instr.next (.pointer (some ⟨w.heap.size, 0, none⟩)) true ty).run Tryd.prog wr = _ := fun ty => Lib.run_next_end_at wr w.heap.size s p ty hit hlt
      rw [runes_end hlt] at hk
      obtain rfl : k = cnt s := by simpa using hk
      have HC := Lib.hid hc
      clear hc hk hit
      go_wp2
      refine bodyPost_ret (v := .int .i64 (cnt s)) (by simp [results, Tryd.results14, go_sem]) rfl ?_
      exact gr_mk rfl HC.out
/-- A line in memory: its text, where it stands, its column, its words. -/
def LineAt (w : World) (b : Nat) (s : ByteArray) (at' col : Nat) (v : Value) : Prop := w.heap[b]? = some (.cells #[.string s, .int .i64 at', .int .i64 col, v] 56 (0, 0))
theorem take_any (b : Nat) (s : ByteArray) (at' col n k : Nat) (v : Value) (w : World) (h : LineAt w b s at' col v) (hn : at' + n ≤ s.size) (hs : s.size ≤ 100000000000) (hk : col + k ≤ 100000000000) :
    Calls Tryd.prog 23 #[.pointer (some ⟨b, 0, none⟩), .int .i64 n, .int .i64 k] w (fun e w' => e = .returned (.string (s.extract at' (at' + n))) ∧ Chg (fun j => j = b) w w' ∧ LineAt w' b s (at' + n) (col + k) v) := by
  have e1 : wrap64 ((at' : Int) + (n : Int)) = ((at' + n : Nat) : Int) := by rw [wid] <;> omega
  have e2 : wrap64 ((col : Int) + (k : Int)) = ((col + k : Nat) : Int) := by rw [wid] <;> omega
  have jb : Old b w := ⟨(Array.getElem?_eq_some_iff.1 h).1⟩
  have c0 : w.cell? ⟨b, 0, none⟩ = some (.string s) := by rw [cell_of_row _ _ _ _ _ _ h]; rfl
  have c1 : w.cell? ⟨b, 1, none⟩ = some (.int .i64 at') := by rw [cell_of_row _ _ _ _ _ _ h]; rfl
  have c2 : w.cell? ⟨b, 2, none⟩ = some (.int .i64 col) := by rw [cell_of_row _ _ _ _ _ _ h]; rfl
  have k1 : HasCell w b 1 := ⟨by rw [c1]; rfl⟩
  have k2 : HasCell w b 2 := ⟨by rw [c2]; rfl⟩
  have fz : ∀ i, w.frozen? ⟨b, i, none⟩ = false := fun i => frozen_of_row _ _ _ _ _ h
  have g1 : ((at' + n : Nat) : Int) ≤ (s.size : Int) := by omega
  have g2 : (at' : Int) ≤ ((at' + n : Nat) : Int) := by omega
  have g3 : (0 : Int) ≤ (at' : Int) := by omega
  have H := Lib.hid (And.intro h (And.intro hn hs))
  clear h hn hs hk
  go_enter Tryd.func23, Tryd.ntmps23
  go_wp2
  refine wp_region_grows (by kernel_rfl) (by kernel_rfl) ?_
  repeat (go_big_quiet_step ((fail)))
  refine wpQuiet_nil ?_
  rintro _ ⟨gg, rfl⟩
  go_wp2
  refine bodyPost_ret (v := .string (s.extract at' (at' + n))) (by simp [results, Tryd.results23, go_sem]) rfl ?_
  have hL : gg.w.heap[b]? = some (.cells #[.string s, .int .i64 at', .int .i64 col, v] 56 (0, 0)) := (gg.h.block b jb.lt (fun e => e)).trans H.out.1
  have hL1 := heap_setCell_same _ _ 1 _ _ (.int .i64 ((at' : Int) + (n : Int))) hL
  have hL2 := heap_setCell_same _ _ 2 _ _ (.int .i64 ((col : Int) + (k : Int))) hL1
  refine ⟨rfl, ?_, ?_⟩
  · have i1 : May b (fun j => j = b) w := ⟨.inl rfl⟩
    exact chg_set (chg_set (gg.h.mono (fun _ _ e => e.elim)) _ _ _) _ _ _
  · exact hL2
theorem run_any (b : Nat) (s : ByteArray) (at' col : Nat) (v : Value) (w : World) (h : LineAt w b s at' col v) (hn : at' ≤ s.size) (hs : s.size ≤ 100000000000) :
    Calls Tryd.prog 24 #[.pointer (some ⟨b, 0, none⟩)] w (Gr (.tuple #[.int .i64 (((run s at').1 - at' : Nat) : Int), .int .i64 ((run s at').2 : Nat)]) w) := by
  have hcl := class_any
  obtain ⟨t, ht⟩ : ∃ t, s.extract at' s.size = t := ⟨_, rfl⟩
  have tsz : t.size = s.size - at' := by rw [← ht, size_ext]
  have hre : (run s at').1 - at' = (runs t 0 0).1 ∧ (run s at').2 = (runs t 0 0).2 := by
    have := runs_ext s at' (s.size - at' - 0) 0 0 rfl (by omega)
    rw [ht] at this
    rw [this]
    exact ⟨rfl, rfl⟩
  rw [hre.1, hre.2]
  obtain ⟨q, hq⟩ : ∃ q, runs t 0 0 = q := ⟨_, rfl⟩
  rw [hq]
  have TS := Lib.hid tsz
  have HT := Lib.hid ht
  have HQ := Lib.hid hq
  clear hre ht tsz hq
  have jb : Old b w := ⟨(Array.getElem?_eq_some_iff.1 h).1⟩
  have c0 : w.cell? ⟨b, 0, none⟩ = some (.string s) := by rw [cell_of_row _ _ _ _ _ _ h]; rfl
  have c1 : w.cell? ⟨b, 1, none⟩ = some (.int .i64 at') := by rw [cell_of_row _ _ _ _ _ _ h]; rfl
  have g2 : (at' : Int) ≤ (s.size : Int) := by omega
  have g3 : (0 : Int) ≤ (at' : Int) := by omega
  have H := Lib.hid (And.intro h (And.intro hn hs))
  clear h hn hs
  go_enter Tryd.func24, Tryd.ntmps24
  go_wp2
  refine wp_region_grows (by kernel_rfl) (by kernel_rfl) ?_
  repeat (go_big_quiet_step ((fail)))
  refine wpQuiet_nil ?_
  rintro _ ⟨gg, rfl⟩
  go_wp2
  obtain ⟨X, hX⟩ : ∃ X, X = gg.w := ⟨_, rfl⟩
  have hcX : Chg Noth w X := by rw [hX]; exact gg.h
  rw [← hX]
  clear hX gg
  rw [HT.out]
  have HX := Lib.hid hcX
  clear hcX
  go_loopw [3] (fun n wr => ∃ (p k : Nat), Chg Noth w wr ∧ n = .int .i64 (k : Int) ∧ wr.heap[X.heap.size]? = some (.stringIter t p) ∧ p ≤ t.size ∧ k ≤ p ∧ runs t p k = q) (fun n wr => t.size - wr.iterPos X.heap.size)
  case atStart =>
    exact ⟨0, 0, chg_alloc HX.out _, rfl, World.iter_heap X t 0, by omega, by omega, HQ.out⟩
  case round =>
    obtain ⟨p, k, hc, rfl, hit, hp, hkp, hk⟩ := hrel
    have hsz : X.heap.size < wr.heap.size := (Array.getElem?_eq_some_iff.1 hit).1
    have hwX : w.heap.size ≤ X.heap.size := HX.out.size
    by_cases hlt : p < t.size
    · have hnx : ∀ ty, (Instr.next (.pointer (some ⟨X.heap.size, 0, none⟩)) true ty).run Tryd.prog wr = _ := fun ty => Lib.run_next_any_at wr X.heap.size t p ty hit hlt
      have hwd := wd_pos t p
      have hwl := wd_le t p hlt
      simp only [← show rn t p = ((Utf8.decode t p).1 : Int) from rfl, ← show wd t p = (Utf8.decode t p).2 from rfl] at hnx
      obtain ⟨W2, hW2⟩ : ∃ W2, wr.iterAt X.heap.size t (p + wd t p) = W2 := ⟨_, rfl⟩
      have hcw : Chg Noth w W2 := by rw [← hW2]; exact iterAt_chg hc hwX _ _
      have hit2 : W2.heap[X.heap.size]? = some (.stringIter t (p + wd t p)) := by rw [← hW2]; exact Lib.iterAt_heap _ _ _ _ _ hit
      rw [hW2] at hnx
      rw [runs_step k hlt] at hk
      have hk1 : wrap64 ((k : Int) + 1) = ((k + 1 : Nat) : Int) := by
        have := TS.out
        have := H.out.2
        rw [wid] <;> omega
      have i2 : Old X.heap.size W2 := ⟨(Array.getElem?_eq_some_iff.1 hit2).1⟩
      have L := Lib.hid (And.intro hcw (And.intro hit2 (And.intro hit hk)))
      clear hcw hit2 hit hk hc hW2
      have hr : (cls (rn t p) = 4 ∧ (cls (rn t p) != 4) = false) ∨ (cls (rn t p) = 3 ∧ (cls (rn t p) != 4) = true ∧ (cls (rn t p) != 3) = false) ∨ (¬ (cls (rn t p) = 3 ∨ cls (rn t p) = 4) ∧ (cls (rn t p) != 4) = true ∧ (cls (rn t p) != 3) = true) := by
        by_cases h4 : cls (rn t p) = 4
        · simp [h4]
        · by_cases h3 : cls (rn t p) = 3
          · simp [h3]
          · simp [h3, h4]
      rcases hr with ⟨h4, x1⟩ | ⟨h3, x1, x2⟩ | ⟨h3, x1, x2⟩
      · have hq := L.out.2.2.2
        rw [if_pos (.inr h4)] at hq
        have HQ2 := Lib.hid hq
        clear hq h4
        go_wp2_with (go_at_call 22; refine (hcl _ _).mono ?_; rintro e w' ⟨rfl, g, rfl⟩)
        have hI := (g.h.block _ i2.lt (fun e => e)).trans L.out.2.1
        refine ⟨⟨p + wd t p, k + 1, L.out.1.trans g.h (fun _ _ e => e), by rw [hk1], hI, hwl, by omega, HQ2.out⟩, ?_⟩
        simp only [World.iterPos, hI, L.out.2.2.1]
        omega
      · have hq := L.out.2.2.2
        rw [if_pos (.inl h3)] at hq
        have HQ2 := Lib.hid hq
        clear hq h3
        go_wp2_with (go_at_call 22; refine (hcl _ _).mono ?_; rintro e w' ⟨rfl, g, rfl⟩)
        have hI := (g.h.block _ i2.lt (fun e => e)).trans L.out.2.1
        refine ⟨⟨p + wd t p, k + 1, L.out.1.trans g.h (fun _ _ e => e), by rw [hk1], hI, hwl, by omega, HQ2.out⟩, ?_⟩
        simp only [World.iterPos, hI, L.out.2.2.1]
        omega
      · have hq := L.out.2.2.2
        rw [if_neg h3] at hq
        clear h3
        subst hq
        go_wp2_with (go_at_call 22; refine (hcl _ _).mono ?_; rintro e w' ⟨rfl, g, rfl⟩)
        go_ret2
        exact gr_mk rfl (L.out.1.trans g.h (fun _ _ e => e))
    · have hnx : ∀ ty, (Instr.next (.pointer (some ⟨X.heap.size, 0, none⟩)) true ty).run Tryd.prog wr = _ := fun ty => Lib.run_next_end_at wr X.heap.size t p ty hit hlt
      rw [runs_end k hlt] at hk
      obtain rfl : p = t.size := by omega
      subst hk
      have HC := Lib.hid hc
      clear hc hit
      go_wp2
      refine bodyPost_ret (v := .tuple #[.int .i64 (t.size : Int), .int .i64 (k : Int)]) (by simp [results, Tryd.results24, go_sem]) rfl ?_
      exact gr_mk rfl HC.out
end Go.Proofs.YtkamjhhaghkdmaaDoor
