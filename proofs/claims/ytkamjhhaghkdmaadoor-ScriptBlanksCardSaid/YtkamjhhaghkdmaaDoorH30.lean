/- A range over a function whose iterator writes a variable of its own between two rounds; else as X. The lines of a text, handed over by strings.SplitSeq. -/
import Derived.Test.YtkamjhhaghkdmaaDoorH28
import Derived.Test.YtkamjhhaghkdmaaDoorH14
import Derived.RangeFuncNested
import Derived.RangeFuncBound
import Derived.RangeFuncCalls
import Derived.RangeFuncLeaves
import Derived.Shelf.Abstract
import Derived.Shelf.RegionOpen
import Derived.OwnWalkIn
import Derived.TacticsInMore
import Derived.LoopNIn
import Derived.LoopIn
namespace Go.Ear
open Go.RowKit

/-- An iterator's contract: each round is told 'Gv pre x W1'; behind it 'S xs W'' holds. -/
def SeqGivenM {α : Type} (F : Fence) (n : Nat) (P : Program) (g : Nat) (lb : Array Value) (encs : α → Array Value) (Kp : World → World → Prop) (Gv : List α → α → World → Prop) (S : List α → World → Prop) (Sp : List α → Prop) (N : Nat) (M : World → World → Prop) (w : World) : Prop :=
  ∀ (l : Nat) (J Jx : List α → World → Prop) (W : World), Below w.heap.size w W → AbidesFrom W.heap.size J → AbidesFrom W.heap.size Jx → (∀ pre A B, J pre A → M A B → J pre B) → (∀ pre A B, Jx pre A → M A B → Jx pre B) →
    (∀ pre x W1, J pre W1 → Gv pre x W1 → pre.length < N → YieldAt F (n - 1) P l (encs x) W1 fun e W' =>
      (e = .returned (.bool true) ∧ J (pre ++ [x]) W' ∧ Kp W1 W') ∨ (e = .returned (.bool false) ∧ Jx (pre ++ [x]) W')) →
    J [] W →
    CallsIn F n P g (#[.func (.yield l) #[] #[]] ++ lb) W fun e W' => (∃ v, e = .returned v) ∧ ((∃ xs, S xs W' ∧ J xs W') ∨ (∃ pre, Sp pre ∧ Jx pre W'))

variable {F : Fence} {n : Nat} {P : Program}
theorem wpIn_range_givenM {α : Type} {g : Operand} {ps : Array Tmp} {assign body : Code} {Q : Exit → Act → World → Prop} {a : Act} {w : World}
    (hro : F.round = none) (h1 : 1 ≤ n) {gf : Nat} {lb : Array Value} (hg : a.eval g = .func (.func gf) #[] lb) (hFg : F.fn gf) (eg : ∀ args w, (callFunc gf args).run P w = .ok (.enter gf args) w)
    {encs : α → Array Value} {Kp : World → World → Prop} {Gv : List α → α → World → Prop} {S : List α → World → Prop} {Sp : List α → Prop} {N : Nat} {M : World → World → Prop} {w0 : World} (hseq : SeqGivenM F (n - 1) P gf lb encs Kp Gv S Sp N M w0)
    (hMk : ∀ (A B : World) (k : Nat) (o : Obj), M A B → w.heap.size ≤ k → A.heap[k]? = some o → B.heap[k]? = some o)
    (hKt : ∀ {A B C : World}, Kp A B → Kp B C → Kp A C) (hKb : ∀ (W : World) (l : Nat) (o o' : Obj), w.heap.size ≤ l → W.heap[l]? = some o → o.isCells = false → o.isWalk = false → Kp W (W.putObj l o'))
    (hb0 : Below w0.heap.size w0 w) (hps : ∀ x, (encs x).size = ps.size)
    (hGv : ∀ pre x, OwnFrom w.heap.size (fun (_ : Unit) W => Gv pre x W)) (hSo : OwnFrom w.heap.size S)
    (I : List α → World → Prop) (Ix : Code → List α → World → Prop) (hI : OwnFrom w.heap.size I) (hIx : ∀ c, OwnFrom w.heap.size (Ix c)) (hIM : ∀ pre A B, I pre A → M A B → I pre B) (hIxM : ∀ c pre A B, Ix c pre A → M A B → Ix c pre B) (h0 : I [] w) (Ax : α → Act → World → Prop) (hAx : ∀ x a', OwnFrom w.heap.size (fun (_ : Unit) W => Ax x a' W))
    (hassign : ∀ (l : Nat) (pre : List α) (x : α) (W : World) (K : Act → World → Prop), I pre W → Gv pre x W → (∀ a' W', KeepsFrom w.heap.size W W' → Kp W W' → I pre W' → Gv pre x W' → Ax x a' W' → K a' W') →
      assign.wpIn (F.inRound l) (n - 1 - 1) P (Exit.then K (fun _ _ _ => False)) { tmps := (ps.zip (encs x)).foldl (fun t (p, v) => t.setIfInBounds p v) a.tmps, defers := [] } W)
    (hbody : ∀ (l : Nat) (pre : List α) (x : α) (a' : Act) (W : World), w.heap.size ≤ l → (∃ r, W.heap[l]? = some (.loop r)) → I pre W → Gv pre x W → Ax x a' W → pre.length < N → body.wpIn (F.inRound l) (n - 1 - 1) P (ownPostG w.heap.size Kp I Ix (pre ++ [x]) W) a' W)
    (hdone : ∀ (D : Nat) (xs : List α) (W : World), w.heap.size ≤ D → S xs W → I xs W → W.heap[D]? = some (.deferred (some [])) → Q .normal { a with defers := { target := .collected D, args := #[] } :: a.defers } W)
    (hstop : ∀ (D : Nat) (c : Code) (pre : List α) (W : World), w.heap.size ≤ D → Sp pre → Ix c pre W → W.heap[D]? = some (.deferred (some [])) → c.wpIn F n P Q { a with defers := { target := .collected D, args := #[] } :: a.defers } W) :
    (Code.rangeFunc g ps assign body).wpIn F n P Q a w := by
  refine wpIn_rangeFunc fun fn hfn => ?_
  rw [hro]
  let rec_ : LoopState → Option Code → Loop := fun st pe => { state := st, pending := pe, fn, tmps := a.tmps, params := ps, assign, body, defers := w.heap.size }
  let B := w.heap.size
  let W1 := (w.alloc (.deferred (some []))).alloc (.loop (rec_ .ready none))
  have hL1 : W1.heap[B + 1]? = some (.loop (rec_ .ready none)) := by
    have := World.alloc_heap_new (w.alloc (.deferred (some []))) (.loop (rec_ .ready none)); rwa [World.size_alloc] at this
  have hK1 : W1.heap[B]? = some (.deferred (some [])) := (Below.heap_alloc _ _ _ (by simp [B])).trans (World.alloc_heap_new w _)
  have hI1 : I [] W1 := hI.alloc _ (hI.alloc _ h0)
  have hb1 : Below w0.heap.size w0 W1 := hb0.trans ((((Below.refl _ w).alloc (Nat.le_refl _) _).alloc (by simp) _).mono hb0.size)
  have hsz : W1.heap.size = B + 1 + 1 := by simp [W1, B]
  refine ⟨B + 1, [{ target := .collected B, args := #[] }], W1, { target := .fn (.func gf) lb, args := #[.func (.yield (B + 1)) #[] #[]] }, W1, gf, #[.func (.yield (B + 1)) #[] #[]] ++ lb, W1, ?_, ?_, ?_, ?_, fun _ => h1, ?_⟩
  · exact run_enterLoop_outer _ _ _ _ _
  · simp only [resolve, hg]
    simp [go_sem]
  · intro f' hf'
    simp [Target.leads] at hf'
    subst hf'
    exact hFg
  · simp [invoke, go_sem, eg]
  · have hnw : ∀ {A : World} {row : Option Nat}, (∀ r, row = some r → W1.heap.size ≤ r ∧ ∃ o : Obj, A.heap[r]? = some o ∧ o.isWalk = true) → (∀ r, row = some r → w.heap.size ≤ r ∧ ∃ o : Obj, A.heap[r]? = some o ∧ o.isCells = false) :=
      fun hr r e => by
        obtain ⟨hB, o, ho, hw⟩ := hr r e
        exact ⟨by rw [hsz] at hB; simp only [B] at hB; omega, o, ho, Obj.not_cells_of_walk hw⟩
    let J : List α → World → Prop := fun pre W => I pre W ∧ W.heap[B + 1]? = some (.loop (rec_ .ready none)) ∧ W.heap[B]? = some (.deferred (some []))
    let Jx : List α → World → Prop := fun pre W => ∃ c, Ix c pre W ∧ W.heap[B + 1]? = some (.loop (rec_ .done (some c))) ∧ W.heap[B]? = some (.deferred (some []))
    have hJ : AbidesFrom W1.heap.size J := fun s A _ row hs hg' hr => ⟨hI s A _ row hs.1 hg' (hnw hr), (grownBy_keeps hg' (fun r e => (hr r e).2) hs.2.1 rfl).trans hs.2.1, (grownBy_keeps hg' (fun r e => (hr r e).2) hs.2.2 rfl).trans hs.2.2⟩
    have hJx : AbidesFrom W1.heap.size Jx := fun s A _ row hs hg' hr => by
      obtain ⟨c, hc, hl, hk⟩ := hs
      exact ⟨c, hIx c s A _ row hc hg' (hnw hr), (grownBy_keeps hg' (fun r e => (hr r e).2) hl rfl).trans hl, (grownBy_keeps hg' (fun r e => (hr r e).2) hk rfl).trans hk⟩
    have hJM : ∀ pre A B', J pre A → M A B' → J pre B' := fun pre A B' hs hM => ⟨hIM _ _ _ hs.1 hM, hMk _ _ _ _ hM (by simp only [B]; omega) hs.2.1, hMk _ _ _ _ hM (Nat.le_refl _) hs.2.2⟩
    have hJxM : ∀ pre A B', Jx pre A → M A B' → Jx pre B' := fun pre A B' hs hM => by
      obtain ⟨c, hc, hl, hk⟩ := hs
      exact ⟨c, hIxM _ _ _ _ hc hM, hMk _ _ _ _ hM (by simp only [B]; omega) hl, hMk _ _ _ _ hM (Nat.le_refl _) hk⟩
    refine (hseq (B + 1) J Jx W1 hb1 hJ hJx hJM hJxM ?_ ⟨hI1, hL1, hK1⟩).mono ?_
    · rintro pre x W ⟨hi, hl, hk⟩ hgx hlen
      have hy := run_yield (P := P) (args := encs x) hl (hps x)
      refine ⟨fn, _, assign, body, hy, roundIn_of_wpIn hfn (hassign _ pre x W _ hi hgx fun a' Wa hkf hkp hia hga hax => ?_)⟩
      have hl' := (hkf.same _ _ (by simp only [B]; omega) hl rfl)
      have hk' := (hkf.same _ _ (Nat.le_refl _) hk rfl)
      have hlt := (Array.getElem?_eq_some_iff.1 hl').1
      refine ⟨_, run_beginRound hl' rfl, ?_⟩
      let bz : Obj := .loop { rec_ .ready none with state := .busy }
      have hl2 : (Wa.putObj (B + 1) bz).heap[B + 1]? = some bz := World.putObj_heap_same hlt
      have hk2 : (Wa.putObj (B + 1) bz).heap[B]? = some (.deferred (some [])) := (World.putObj_heap_other (by omega)).trans hk'
      have hw2 : Kp Wa (Wa.putObj (B + 1) bz) := hKb _ _ _ _ (by simp only [B]; omega) hl' rfl rfl
      refine wpIn_mono (hbody _ pre x a' _ (by simp only [B]; omega) ⟨_, hl2⟩ (hI.putObj _ hia (by simp only [B]; omega) hl' rfl) ((hGv pre x).putObj (s := ()) _ hga (by simp only [B]; omega) hl' rfl) ((hAx x a').putObj (s := ()) _ hax (by simp only [B]; omega) hl' rfl) hlen) ?_
      have out : ∀ (jump : Option Code) (W3 : World), KeepsFrom w.heap.size (Wa.putObj (B + 1) bz) W3 →
          (Instr.endRound (B + 1) jump).run P W3 = .ok (.bool jump.isNone) (W3.putObj (B + 1) (.loop (rec_ (if jump.isNone then .ready else .done) jump))) ∧ W3.heap[B + 1]? = some bz ∧
          (W3.putObj (B + 1) (.loop (rec_ (if jump.isNone then .ready else .done) jump))).heap[B + 1]? = some (.loop (rec_ (if jump.isNone then .ready else .done) jump)) ∧
          (W3.putObj (B + 1) (.loop (rec_ (if jump.isNone then .ready else .done) jump))).heap[B]? = some (.deferred (some [])) := fun jump W3 hk3 => by
        have hl3 := hk3.same _ _ (by simp only [B]; omega) hl2 rfl
        exact ⟨run_endRound (P := P) jump hl3, hl3, World.putObj_heap_same (Array.getElem?_eq_some_iff.1 hl3).1, (World.putObj_heap_other (by omega)).trans (hk3.same _ _ (Nat.le_refl _) hk2 rfl)⟩
      have leave : ∀ (c : Code) (W3 : World), KeepsFrom w.heap.size (Wa.putObj (B + 1) bz) W3 → Ix c (pre ++ [x]) W3 → ∃ v W4, (Instr.endRound (B + 1) (some c)).run P W3 = .ok v W4 ∧ v = .bool false ∧ Jx (pre ++ [x]) W4 := fun c W3 hk3 hi3 => by
        obtain ⟨hr, hl3, hl4, hk4⟩ := out (some c) W3 hk3
        exact ⟨_, _, hr, rfl, c, (hIx c).putObj _ hi3 (by simp only [B]; omega) hl3 rfl, hl4, hk4⟩
      rintro e a3 W3 hp
      cases e with
      | normal =>
        obtain ⟨hk3, hkp3, hi3⟩ := hp
        obtain ⟨hr, hl3, hl4, hk4⟩ := out none W3 hk3
        exact ⟨_, _, hr, .inl ⟨rfl, ⟨hI.putObj _ hi3 (by simp only [B]; omega) hl3 rfl, hl4, hk4⟩, hKt hkp (hKt (hKt hw2 hkp3) (hKb _ _ _ _ (by simp only [B]; omega) hl3 rfl rfl))⟩⟩
      | ret =>
        obtain ⟨v, W4, hr, rfl, hx4⟩ := leave .ret W3 hp.1 hp.2
        exact ⟨_, _, hr, .inr ⟨rfl, hx4⟩⟩
      | exit id =>
        obtain ⟨v, W4, hr, rfl, hx4⟩ := leave (.exit id) W3 hp.1 hp.2
        exact ⟨_, _, hr, .inr ⟨rfl, hx4⟩⟩
      | goto t =>
        obtain ⟨v, W4, hr, rfl, hx4⟩ := leave (.goto t) W3 hp.1 hp.2
        exact ⟨_, _, hr, .inr ⟨rfl, hx4⟩⟩
      | panic ch => exact hp.elim
      | outgrown => exact hp.elim
    · rintro e W2 ⟨⟨v, rfl⟩, (⟨xs, hS, hi, hl, hk⟩ | ⟨pre, hSp, c, hi, hl, hk⟩)⟩
      · exact ⟨none, _, run_endLoop (P := P) hl (by simp [rec_]), hdone _ xs _ (Nat.le_refl _) (hSo.putObj _ hS (by simp only [B]; omega) hl rfl) (hI.putObj _ hi (by simp only [B]; omega) hl rfl) ((World.putObj_heap_other (by omega)).trans hk)⟩
      · exact ⟨some c, _, run_endLoop (P := P) hl (by simp [rec_]), hstop _ c pre _ (Nat.le_refl _) hSp ((hIx c).putObj _ hi (by simp only [B]; omega) hl rfl) ((World.putObj_heap_other (by omega)).trans hk)⟩
end Go.Ear
namespace Go.Ear
/-- Up to the first byte 10, and behind it. -/
theorem linesF_acc : ∀ (l acc : List UInt8), linesF l acc = (acc ++ (linesF l []).headD []) :: (linesF l []).tail
  | [], acc => by simp [linesF]
  | c :: l, acc => by
    simp only [linesF]
    by_cases h : c = 10
    · rw [if_pos h, if_pos h]; simp
    · rw [if_neg h, if_neg h, linesF_acc l (acc ++ [c]), linesF_acc l ([] ++ [c])]
      simp
theorem indexOf_none : ∀ (l : List UInt8), (∀ x ∈ l, x ≠ 10) → lines l = [l]
  | [], _ => rfl
  | c :: l, h => by
    have h1 := indexOf_none l (fun x hx => h x (by simp [hx]))
    unfold lines at h1 ⊢
    simp only [linesF]
    rw [if_neg (h c (by simp)), linesF_acc, h1]
    simp
theorem lines_cut : ∀ (a b : List UInt8), (∀ x ∈ a, x ≠ 10) → lines (a ++ 10 :: b) = a :: lines b := fun a b h => by
  rw [lines_append, indexOf_none a h]
  rfl
theorem lines_len (l : List UInt8) : (lines l).length ≤ l.length + 1 := by
  rw [show lines l = linesF l [] from rfl, linesF_len]
  have := List.count_le_length (a := (10 : UInt8)) (l := l)
  omega
def linesB (s : ByteArray) : List ByteArray := (lines s.data.toList).map fun l => ⟨l.toArray⟩
theorem linesB_none (s : ByteArray) (h : Lib.indexByte s.data.toList 10 = -1) : linesB s = [s] := by
  unfold linesB
  rw [indexOf_none]
  · simp
  · intro x hx e
    obtain ⟨k, hk⟩ := List.mem_iff_getElem?.1 hx
    exact Lib.indexByte_none h k (by rw [hk, e])
theorem linesB_cut (s : ByteArray) (o : Nat) (h : Lib.indexByte s.data.toList 10 = (o : Int)) : o < s.size ∧ linesB s = s.extract 0 o :: linesB (s.extract (o + 1) s.size) := by
  obtain ⟨h1, h2⟩ := Lib.indexByte_some h
  have hl : o < s.data.toList.length := (List.getElem?_eq_some_iff.1 h1).1
  have hs : o < s.size := by simpa using hl
  refine ⟨hs, ?_⟩
  have e : s.data.toList = s.data.toList.take o ++ 10 :: s.data.toList.drop (o + 1) := by
    have e2 : s.data.toList.drop o = 10 :: s.data.toList.drop (o + 1) := by
      rw [List.drop_eq_getElem_cons hl, (List.getElem?_eq_some_iff.1 h1).2]
    rw [← e2, List.take_append_drop]
  have e3 : linesB (s.extract (o + 1) s.size) = (lines (s.data.toList.drop (o + 1))).map fun l => (⟨l.toArray⟩ : ByteArray) := by
    unfold linesB
    rw [list_ext]
  rw [e3]
  unfold linesB
  conv => lhs; rw [e]
  rw [lines_cut, List.map_cons]
  · congr 1
    apply ByteArray.ext
    rw [ByteArray.data_extract]
    apply Array.ext'
    rw [Array.toList_extract, List.extract_eq_take_drop]
    simp
  · intro x hx ex
    obtain ⟨k, hk⟩ := List.mem_iff_getElem?.1 hx
    have hko : k < o := by
      have := (List.getElem?_eq_some_iff.1 hk).1
      simp at this
      omega
    rw [List.getElem?_take_of_lt hko] at hk
    exact h2 k hko (by rw [hk, ex])
theorem linesB_len (s : ByteArray) : (linesB s).length ≤ s.size + 1 := by
  unfold linesB
  rw [List.length_map]
  have := lines_len s.data.toList
  simpa using this
theorem Chg.heap_at' {a b : World} {k : Nat} {o : Obj} (h : Chg Noth a b) (hk : a.heap[k]? = some o) : b.heap[k]? = some o := (h.block k (Array.getElem?_eq_some_iff.1 hk).1 (fun e => e)).trans hk
/-- The iterator's three variables: what is left, the separator, 0. -/
structure Spl (B : Nat) (s : ByteArray) (W : World) : Prop where
  s : W.heap[B]? = some (.cells #[.string s] 9 (0, 0))
  sep : W.heap[B + 1]? = some (.cells #[.string ⟨#[10]⟩] 9 (0, 0))
  save : W.heap[B + 1 + 1]? = some (.cells #[.int .i64 0] 3 (0, 0))
/-- What a round keeps. -/
def KpS (B : Nat) (A A' : World) : Prop := A.heap.size ≤ A'.heap.size ∧ ∀ k, k = B ∨ k = B + 1 ∨ k = B + 1 + 1 → A'.heap[k]? = A.heap[k]?
theorem KpS.trans {B : Nat} {X Y Z : World} (h : KpS B X Y) (k : KpS B Y Z) : KpS B X Z := ⟨Nat.le_trans h.1 k.1, fun i hi => (k.2 i hi).trans (h.2 i hi)⟩
theorem Spl.keep {B : Nat} {s : ByteArray} {X Y : World} (h : Spl B s X) (k : KpS B X Y) : Spl B s Y := ⟨(k.2 _ (.inl rfl)).trans h.s, (k.2 _ (.inr (.inl rfl))).trans h.sep, (k.2 _ (.inr (.inr rfl))).trans h.save⟩
theorem Spl.grow {B : Nat} {s : ByteArray} {X Y : World} (h : Spl B s X) (k : Chg Noth X Y) : Spl B s Y := ⟨k.heap_at' h.s, k.heap_at' h.sep, k.heap_at' h.save⟩
/-- The iterator's own step. -/
def MvB (B : Nat) (X Y : World) : Prop := ∃ v, Y = X.setCell ⟨B, 0, none⟩ v
end Go.Ear
namespace Go.Proofs.YtkamjhhaghkdmaaDoor
open Go.RowKit Go.Ear Go.Shelf
attribute [local go_sem] Oper.semAt_some
set_option maxHeartbeats 4000000
set_option maxRecDepth 100000
set_option linter.unusedSimpArgs false
set_option linter.unusedVariables false
theorem split_any (s : ByteArray) (w : World) : Calls Tryd.prog 11 #[.string s, .string ⟨#[10]⟩] w (fun e w' => e = .returned (.func (.func 36) #[] #[.pointer (some ⟨w.heap.size + 1, 0, none⟩), .pointer (some ⟨w.heap.size, 0, none⟩), .pointer (some ⟨w.heap.size + 1 + 1, 0, none⟩)]) ∧ Chg Noth w w' ∧ w'.heap.size = w.heap.size + 3 ∧ Spl w.heap.size s w') := by
  have hmf : ∀ (fn : Fn) (first cap : Array Value) (w : World), (Instr.makeFunc fn first cap).run Tryd.prog w = .ok (.func fn first cap) w := fun _ _ _ _ => rfl
  have inner : Calls Tryd.prog 20 #[.string s, .string ⟨#[10]⟩, .int .i64 0] w (fun e w' => e = .returned (.func (.func 36) #[] #[.pointer (some ⟨w.heap.size + 1, 0, none⟩), .pointer (some ⟨w.heap.size, 0, none⟩), .pointer (some ⟨w.heap.size + 1 + 1, 0, none⟩)]) ∧ Chg Noth w w' ∧ w'.heap.size = w.heap.size + 3 ∧ Spl w.heap.size s w') := by
    go_enter Tryd.func20, Tryd.ntmps20
    go_wp2
    go_ret
    refine ⟨rfl, chg_alloc (chg_alloc (chg_alloc (Chg.refl _ _) _) _) _, by simp, ⟨?_, ?_, ?_⟩⟩
    · exact (Below.heap_alloc _ _ _ (by simp; omega)).trans ((Below.heap_alloc _ _ _ (by simp)).trans (heap_alloc_new _ _))
    · exact (Below.heap_alloc _ _ _ (by simp)).trans (by have := heap_alloc_new (w.alloc (.cells #[.string s] 9)) (.cells #[.string ⟨#[10]⟩] 9); simpa using this)
    · have := heap_alloc_new ((w.alloc (.cells #[.string s] 9)).alloc (.cells #[.string ⟨#[10]⟩] 9)) (.cells #[.int .i64 0] 3)
      rw [show ((w.alloc (.cells #[.string s] 9)).alloc (.cells #[.string ⟨#[10]⟩] 9)).heap.size = w.heap.size + 1 + 1 by simp] at this
      exact this
  go_enter Tryd.func11, Tryd.ntmps11
  go_wp2_with (go_at_call 20; refine inner.mono ?_; rintro e w' ⟨rfl, h⟩)
  go_ret
  exact ⟨rfl, h⟩
theorem split_in (n : Nat) (hn : 1 ≤ n) (l B : Nat) (t : ByteArray) (ht : t.size ≤ 1000000) (J Jx : List ByteArray → World → Prop) (b : Nat) (hJ : AbidesFrom b J) (hJM : ∀ pre A B', J pre A → MvB B A B' → J pre B')
    (hY : ∀ pre x W, J pre W → pre ++ [x] <+: linesB t → pre.length < (linesB t).length → YieldAt Fence.wide (n - 1) Tryd.prog l #[.string x] W fun e W' =>
      (e = .returned (.bool true) ∧ J (pre ++ [x]) W' ∧ KpS B W W') ∨ (e = .returned (.bool false) ∧ Jx (pre ++ [x]) W'))
    (W : World) (hI : Spl B t W) (h0 : J [] W) :
    CallsIn Fence.wide n Tryd.prog 36 #[.func (.yield l) #[] #[], .pointer (some ⟨B + 1, 0, none⟩), .pointer (some ⟨B, 0, none⟩), .pointer (some ⟨B + 1 + 1, 0, none⟩)] W fun e W' => (∃ v, e = .returned v) ∧
      ((∃ xs, xs = linesB t ∧ J xs W') ∨ (∃ pre, pre <+: linesB t ∧ Jx pre W')) := by
  have hix := Tryd.strings_Index_one
  obtain ⟨L, hL⟩ : ∃ L, linesB t = L := ⟨_, rfl⟩
  have HL := Lib.hid hL
  rw [hL] at hY ⊢
  clear hL
  have c1 : W.cell? ⟨B + 1, 0, none⟩ = some (.string ⟨#[10]⟩) := by rw [cell_of_row _ _ 0 _ _ _ hI.sep]; rfl
  have HI := Lib.hid hI
  clear hI
  refine callsIn_of_wp Tryd.func36 rfl trivial ?_
  simp only [Tryd.ntmps36, List.size_toArray, List.length_cons, List.length_nil, Nat.reduceAdd, Nat.reduceSub, Array.replicate_succ, Array.replicate_zero, List.push_toArray, List.append_toArray, List.nil_append, List.cons_append]
  gi_wp2
  gi_loopw [] (fun wr => ∃ (pre : List ByteArray) (s : ByteArray), L = pre ++ linesB s ∧ J pre wr ∧ Spl B s wr ∧ s.size ≤ 1000000)
    (fun wr => match wr.cell? ⟨B, 0, none⟩ with | some (.string s) => s.size | _ => 0)
  case atStart => exact ⟨[], t, HL.out.symm, h0, HI.out, ht⟩
  case round =>
    clear c1 HI h0
    obtain ⟨pre, s, hpre, hJs, hit, hs⟩ := hrel
    have c0 : wr.cell? ⟨B, 0, none⟩ = some (.string s) := by rw [cell_of_row _ _ 0 _ _ _ hit.s]; rfl
    have c1 : wr.cell? ⟨B + 1, 0, none⟩ = some (.string ⟨#[10]⟩) := by rw [cell_of_row _ _ 0 _ _ _ hit.sep]; rfl
    have c2 : wr.cell? ⟨B + 1 + 1, 0, none⟩ = some (.int .i64 0) := by rw [cell_of_row _ _ 0 _ _ _ hit.save]; rfl
    have hixw := hix s 10 wr
    have hgeB := Lib.indexByte_ge s.data.toList 10
    obtain ⟨i, hi⟩ : ∃ i, Lib.indexByte s.data.toList 10 = i := ⟨_, rfl⟩
    rw [hi] at hixw hgeB
    by_cases hneg : i = -1
    · subst hneg
      rw [linesB_none s hi] at hpre
      obtain ⟨fn, tmps, assign, body, hy, hR⟩ := hY pre s wr hJs (by rw [hpre]; exact List.prefix_rfl) (by rw [hpre]; simp)
      have HP := Lib.hid (And.intro hpre hi)
      clear hpre hi hgeB hix hs hit
      gi_wp2_with (refine ⟨trivial, ?_⟩; gi_at_call 38; refine (callsIn_wide.2 hixw).mono ?_; rintro e w' ⟨rfl, rfl⟩)
      try rw [hy]
      try gi_wp2
      refine hR.mono ?_
      rintro e W3 (⟨rfl, hJ4, hk4⟩ | ⟨rfl, hJx⟩)
      · gi_wp2
        go_end0
        exact ⟨⟨_, rfl⟩, .inl ⟨_, HP.out.1.symm, hJ4⟩⟩
      · gi_wp2
        go_end0
        exact ⟨⟨_, rfl⟩, .inr ⟨_, by rw [HP.out.1]; exact List.prefix_rfl, hJx⟩⟩
    · obtain ⟨o, rfl⟩ := Int.eq_ofNat_of_zero_le (show 0 ≤ i by omega)
      obtain ⟨ho, hcut⟩ := linesB_cut s o hi
      rw [hcut] at hpre
      obtain ⟨fn, tmps, assign, body, hy, hR⟩ := hY pre (s.extract 0 o) wr hJs (by rw [hpre]; exact ⟨linesB (s.extract (o + 1) s.size), by simp⟩) (by rw [hpre]; simp)
      have x1 : decide ((o : Int) < 0) = false := decide_eq_false (by omega)
      have w0 : wrap64 (o : Int) = (o : Int) := by rw [wid] <;> omega
      have w1 : wrap64 ((o : Int) + 1) = ((o + 1 : Nat) : Int) := by rw [wid] <;> omega
      have g1 : (o : Int) ≤ (s.size : Int) := by omega
      have g2 : (0 : Int) ≤ (o : Int) := by omega
      have g3 : ((o + 1 : Nat) : Int) ≤ (s.size : Int) := by omega
      have g4 : (0 : Int) ≤ ((o + 1 : Nat) : Int) := by omega
      have HP := Lib.hid (And.intro hpre (And.intro hi (And.intro hs ho)))
      have HT := Lib.hid hit
      clear hpre hi hgeB hix hs hneg hcut ho hit
      gi_wp2_with (refine ⟨trivial, ?_⟩; gi_at_call 38; refine (callsIn_wide.2 hixw).mono ?_; rintro e w' ⟨rfl, rfl⟩)
      refine hR.mono ?_
      rintro e W3 (⟨rfl, hJ4, hk4⟩ | ⟨rfl, hJx⟩)
      · have hT3 := HT.out.keep hk4
        have d0 : W3.cell? ⟨B, 0, none⟩ = some (.string s) := by rw [cell_of_row _ _ 0 _ _ _ hT3.s]; rfl
        have d1 : W3.cell? ⟨B + 1, 0, none⟩ = some (.string ⟨#[10]⟩) := by rw [cell_of_row _ _ 0 _ _ _ hT3.sep]; rfl
        have d2 : W3.cell? ⟨B + 1 + 1, 0, none⟩ = some (.int .i64 0) := by rw [cell_of_row _ _ 0 _ _ _ hT3.save]; rfl
        have f0 : W3.frozen? ⟨B, 0, none⟩ = false := frozen_of_row _ _ 0 _ _ hT3.s
        have HT3 := Lib.hid hT3
        clear hT3
        gi_wp2
        go_roundw
        case rel =>
          have hM := hJM _ _ _ hJ4 ⟨.string (s.extract (o + 1) s.size), rfl⟩
          have q1 := heap_setCell_same _ _ 0 _ _ (.string (s.extract (o + 1) s.size)) HT3.out.s
          refine ⟨pre ++ [s.extract 0 o], s.extract (o + 1) s.size, by rw [HP.out.1]; simp, hM, ⟨q1, (heap_set_far _ _ _ _ (by omega)).trans HT3.out.sep, (heap_set_far _ _ _ _ (by omega)).trans HT3.out.save⟩, by rw [size_ext]; have := HP.out.2.2.1; omega⟩
        case measure =>
          have q1 := heap_setCell_same _ _ 0 _ _ (.string (s.extract (o + 1) s.size)) HT3.out.s
          have q2 : (W3.setCell ⟨B, 0, none⟩ (.string (s.extract (o + 1) s.size))).cell? ⟨B, 0, none⟩ = some (.string (s.extract (o + 1) s.size)) := by rw [cell_of_row _ _ 0 _ _ _ q1]; rfl
          have := HP.out.2.2.2
          rw [q2, c0]
          simp only [size_ext]
          omega
      · gi_wp2
        refine bodyPost_ret (results_none rfl _ _ _) rfl ?_
        exact ⟨⟨_, rfl⟩, .inr ⟨_, by rw [HP.out.1]; exact ⟨linesB (s.extract (o + 1) s.size), by simp⟩, hJx⟩⟩
/-- The iterator's word. -/
theorem split_given (n : Nat) (hn : 1 ≤ n) (B : Nat) (t : ByteArray) (ht : t.size ≤ 1000000) (w : World) (hI : Spl B t w) :
    SeqGivenM Fence.wide n Tryd.prog 36 #[.pointer (some ⟨B + 1, 0, none⟩), .pointer (some ⟨B, 0, none⟩), .pointer (some ⟨B + 1 + 1, 0, none⟩)] (fun x => #[.string x]) (KpS B) (fun pre x _ => pre ++ [x] <+: linesB t) (fun xs _ => xs = linesB t) (fun pre => pre <+: linesB t) (linesB t).length (MvB B) w := fun l J Jx W hW hJ _ hJM _ hY h0 =>
  split_in n hn l B t ht J Jx W.heap.size hJ hJM hY W (hI.grow (Chg.of_below hW)) h0
end Go.Proofs.YtkamjhhaghkdmaaDoor
