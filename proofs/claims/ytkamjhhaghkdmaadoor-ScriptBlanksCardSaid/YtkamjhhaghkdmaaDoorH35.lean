/- A range over a function in whose rounds a panic may come; else as X. A range over a function in whose rounds a panic may come, as X3; but the iterator makes memory only and writes none: so what a round leaves may speak of maps too. -/
import Derived.Test.YtkamjhhaghkdmaaDoorH34
import Derived.RangeFuncNested
import Derived.RangeFuncBound
import Derived.RangeFuncCalls
import Derived.RangeFuncLeaves
namespace Go.Ear
open Go.RowKit

/-- An iterator's contract: each round is told 'Gv pre x W1'; behind it 'S xs W'' holds. -/
def SeqGivenP {α : Type} (F : Fence) (n : Nat) (P : Program) (g : Nat) (lb : Array Value) (encs : α → Array Value) (Kp : World → World → Prop) (Gv : List α → α → World → Prop) (S : List α → World → Prop) (Sp : List α → Prop) (N : Nat) (w : World) : Prop :=
  ∀ (l : Nat) (J Jx : List α → World → Prop) (Jp : List PanicEntry → List α → World → Prop) (W : World), Below w.heap.size w W → AbidesFrom W.heap.size J → AbidesFrom W.heap.size Jx →
    (∀ pre x W1, J pre W1 → Gv pre x W1 → pre.length < N → YieldAt F (n - 1) P l (encs x) W1 fun e W' =>
      (e = .returned (.bool true) ∧ J (pre ++ [x]) W' ∧ Kp W1 W') ∨ (e = .returned (.bool false) ∧ Jx (pre ++ [x]) W') ∨ (∃ ch, e = .panicked ch ∧ Jp ch (pre ++ [x]) W')) →
    J [] W →
    CallsIn F n P g (#[.func (.yield l) #[] #[]] ++ lb) W fun e W' => ((∃ v, e = .returned v) ∧ ((∃ xs, S xs W' ∧ J xs W') ∨ (∃ pre, Sp pre ∧ Jx pre W'))) ∨ (∃ ch pre, e = .panicked ch ∧ Sp pre ∧ Jp ch pre W')

/-- How the body of a round may be left. -/
def ownPostP {α : Type} (B : Nat) (Kp : World → World → Prop) (I : List α → World → Prop) (Ix : Code → List α → World → Prop) (Ip : List PanicEntry → List α → World → Prop) (xs : List α) (W : World) : Exit → Act → World → Prop
  | .panic ch, a, W' => a.defers = [] ∧ KeepsFrom B W W' ∧ Ip ch xs W'
  | e, a, W' => ownPostG B Kp I Ix xs W e a W'
variable {F : Fence} {n : Nat} {P : Program}
theorem wpIn_range_givenP {α : Type} {g : Operand} {ps : Array Tmp} {assign body : Code} {Q : Exit → Act → World → Prop} {a : Act} {w : World}
    (hro : F.round = none) (h1 : 1 ≤ n) {gf : Nat} {lb : Array Value} (hg : a.eval g = .func (.func gf) #[] lb) (hFg : F.fn gf) (eg : ∀ args w, (callFunc gf args).run P w = .ok (.enter gf args) w)
    {encs : α → Array Value} {Kp : World → World → Prop} {Gv : List α → α → World → Prop} {S : List α → World → Prop} {Sp : List α → Prop} {N : Nat} {w0 : World} (hseq : SeqGivenP F (n - 1) P gf lb encs Kp Gv S Sp N w0)
    (hKt : ∀ {A B C : World}, Kp A B → Kp B C → Kp A C) (hKb : ∀ (W : World) (l : Nat) (o o' : Obj), w.heap.size ≤ l → W.heap[l]? = some o → o.isCells = false → o.isWalk = false → Kp W (W.putObj l o'))
    (hb0 : Below w0.heap.size w0 w) (hps : ∀ x, (encs x).size = ps.size)
    (hGv : ∀ pre x, OwnFrom w.heap.size (fun (_ : Unit) W => Gv pre x W)) (hSo : OwnFrom w.heap.size S)
    (I : List α → World → Prop) (Ix : Code → List α → World → Prop) (hI : OwnFrom w.heap.size I) (hIx : ∀ c, OwnFrom w.heap.size (Ix c)) (Ip : List PanicEntry → List α → World → Prop) (h0 : I [] w) (Ax : α → Act → World → Prop) (hAx : ∀ x a', OwnFrom w.heap.size (fun (_ : Unit) W => Ax x a' W))
    (hassign : ∀ (l : Nat) (pre : List α) (x : α) (W : World) (K : Act → World → Prop), I pre W → Gv pre x W → (∀ a' W', KeepsFrom w.heap.size W W' → Kp W W' → I pre W' → Gv pre x W' → Ax x a' W' → K a' W') →
      assign.wpIn (F.inRound l) (n - 1 - 1) P (Exit.then K (fun _ _ _ => False)) { tmps := (ps.zip (encs x)).foldl (fun t (p, v) => t.setIfInBounds p v) a.tmps, defers := [] } W)
    (hbody : ∀ (l : Nat) (pre : List α) (x : α) (a' : Act) (W : World), w.heap.size ≤ l → (∃ r, W.heap[l]? = some (.loop r)) → I pre W → Gv pre x W → Ax x a' W → pre.length < N → body.wpIn (F.inRound l) (n - 1 - 1) P (ownPostP w.heap.size Kp I Ix Ip (pre ++ [x]) W) a' W)
    (hdone : ∀ (D : Nat) (xs : List α) (W : World), w.heap.size ≤ D → S xs W → I xs W → W.heap[D]? = some (.deferred (some [])) → Q .normal { a with defers := { target := .collected D, args := #[] } :: a.defers } W)
    (hpan : ∀ (D : Nat) (ch : List PanicEntry) (pre : List α) (W : World), w.heap.size ≤ D → Sp pre → Ip ch pre W → W.heap[D]? = some (.deferred (some [])) → Q (.panic ch) { a with defers := { target := .collected D, args := #[] } :: a.defers } W)
    (hstop : ∀ (D : Nat) (c : Code) (pre : List α) (W : World), w.heap.size ≤ D → Sp pre → Ix c pre W → W.heap[D]? = some (.deferred (some [])) → c.wpIn F n P Q { a with defers := { target := .collected D, args := #[] } :: a.defers } W) :
    (Code.rangeFunc g ps assign body).wpE F n P Q a w := by
  refine wpE_rangeFunc fun fn hxf hfn => ?_
  rw [hro]
  let rec_ : LoopState → Option Code → Loop := fun st pe => { state := st, pending := pe, fn, tmps := a.tmps, params := ps, assign, body, defers := w.heap.size }
  let B := w.heap.size
  let W1 := (w.alloc (.deferred (some []))).alloc (.loop (rec_ .ready none))
  have hL1 : W1.heap[B + 1]? = some (.loop (rec_ .ready none)) := by
    have := World.alloc_heap_new (w.alloc (.deferred (some []))) (.loop (rec_ .ready none)); rwa [World.size_alloc] at this
  have hK1 : W1.heap[B]? = some (.deferred (some [])) := (Below.heap_alloc _ _ _ (by simp [B])).trans (World.alloc_heap_new w _)
  have hI1 : I [] W1 := hI.alloc _ (hI.alloc _ h0)
  have hb1 : Below w0.heap.size w0 W1 := hb0.trans ((((Below.refl _ w).alloc (Nat.le_refl _) _).alloc (by simp) _).mono hb0.size)
  have hsz : W1.heap.size = B + 1 + 1 := by simp [W1, B]
  refine ⟨B + 1, [{ target := .collected B, args := #[] }], W1, { target := .fn (.func gf) lb, args := #[.func (.yield (B + 1)) #[] #[]] }, W1, gf, #[.func (.yield (B + 1)) #[] #[]] ++ lb, W1, ?_, ?_, ?_, ?_, fun _ => h1, ?_⟩
  · exact run_enterLoop_outer _ _ _ _ _
  · simp only [resolve, hg]
    simp [go_sem]
  · intro f' hf'
    simp [Target.leads] at hf'
    subst hf'
    exact hFg
  · simp [invoke, go_sem, eg]
  · have hnw : ∀ {A : World} {row : Option Nat}, (∀ r, row = some r → W1.heap.size ≤ r ∧ ∃ o : Obj, A.heap[r]? = some o ∧ o.isWalk = true) → (∀ r, row = some r → w.heap.size ≤ r ∧ ∃ o : Obj, A.heap[r]? = some o ∧ o.isCells = false) :=
      fun hr r e => by
        obtain ⟨hB, o, ho, hw⟩ := hr r e
        exact ⟨by rw [hsz] at hB; simp only [B] at hB; omega, o, ho, Obj.not_cells_of_walk hw⟩
    let J : List α → World → Prop := fun pre W => I pre W ∧ W.heap[B + 1]? = some (.loop (rec_ .ready none)) ∧ W.heap[B]? = some (.deferred (some []))
    let Jx : List α → World → Prop := fun pre W => ∃ c, Ix c pre W ∧ W.heap[B + 1]? = some (.loop (rec_ .done (some c))) ∧ W.heap[B]? = some (.deferred (some []))
    have hJ : AbidesFrom W1.heap.size J := fun s A _ row hs hg' hr => ⟨hI s A _ row hs.1 hg' (hnw hr), (grownBy_keeps hg' (fun r e => (hr r e).2) hs.2.1 rfl).trans hs.2.1, (grownBy_keeps hg' (fun r e => (hr r e).2) hs.2.2 rfl).trans hs.2.2⟩
    have hJx : AbidesFrom W1.heap.size Jx := fun s A _ row hs hg' hr => by
      obtain ⟨c, hc, hl, hk⟩ := hs
      exact ⟨c, hIx c s A _ row hc hg' (hnw hr), (grownBy_keeps hg' (fun r e => (hr r e).2) hl rfl).trans hl, (grownBy_keeps hg' (fun r e => (hr r e).2) hk rfl).trans hk⟩
    refine (hseq (B + 1) J Jx (fun ch pre W => Ip ch pre W ∧ W.heap[B]? = some (.deferred (some []))) W1 hb1 hJ hJx ?_ ⟨hI1, hL1, hK1⟩).mono ?_
    · rintro pre x W ⟨hi, hl, hk⟩ hgx hlen
      have hy := run_yield (P := P) (args := encs x) hl (hps x)
      refine ⟨fn, _, assign, body, hy, roundIn_of_wpIn_pan hfn hxf (hassign _ pre x W _ hi hgx fun a' Wa hkf hkp hia hga hax => ?_)⟩
      have hl' := (hkf.same _ _ (by simp only [B]; omega) hl rfl)
      have hk' := (hkf.same _ _ (Nat.le_refl _) hk rfl)
      have hlt := (Array.getElem?_eq_some_iff.1 hl').1
      refine ⟨_, run_beginRound hl' rfl, ?_⟩
      let bz : Obj := .loop { rec_ .ready none with state := .busy }
      have hl2 : (Wa.putObj (B + 1) bz).heap[B + 1]? = some bz := World.putObj_heap_same hlt
      have hk2 : (Wa.putObj (B + 1) bz).heap[B]? = some (.deferred (some [])) := (World.putObj_heap_other (by omega)).trans hk'
      have hw2 : Kp Wa (Wa.putObj (B + 1) bz) := hKb _ _ _ _ (by simp only [B]; omega) hl' rfl rfl
      refine wpIn_mono (hbody _ pre x a' _ (by simp only [B]; omega) ⟨_, hl2⟩ (hI.putObj _ hia (by simp only [B]; omega) hl' rfl) ((hGv pre x).putObj (s := ()) _ hga (by simp only [B]; omega) hl' rfl) ((hAx x a').putObj (s := ()) _ hax (by simp only [B]; omega) hl' rfl) hlen) ?_
      have out : ∀ (jump : Option Code) (W3 : World), KeepsFrom w.heap.size (Wa.putObj (B + 1) bz) W3 →
          (Instr.endRound (B + 1) jump).run P W3 = .ok (.bool jump.isNone) (W3.putObj (B + 1) (.loop (rec_ (if jump.isNone then .ready else .done) jump))) ∧ W3.heap[B + 1]? = some bz ∧
          (W3.putObj (B + 1) (.loop (rec_ (if jump.isNone then .ready else .done) jump))).heap[B + 1]? = some (.loop (rec_ (if jump.isNone then .ready else .done) jump)) ∧
          (W3.putObj (B + 1) (.loop (rec_ (if jump.isNone then .ready else .done) jump))).heap[B]? = some (.deferred (some [])) := fun jump W3 hk3 => by
        have hl3 := hk3.same _ _ (by simp only [B]; omega) hl2 rfl
        exact ⟨run_endRound (P := P) jump hl3, hl3, World.putObj_heap_same (Array.getElem?_eq_some_iff.1 hl3).1, (World.putObj_heap_other (by omega)).trans (hk3.same _ _ (Nat.le_refl _) hk2 rfl)⟩
      have leave : ∀ (c : Code) (W3 : World), KeepsFrom w.heap.size (Wa.putObj (B + 1) bz) W3 → Ix c (pre ++ [x]) W3 → ∃ v W4, (Instr.endRound (B + 1) (some c)).run P W3 = .ok v W4 ∧ v = .bool false ∧ Jx (pre ++ [x]) W4 := fun c W3 hk3 hi3 => by
        obtain ⟨hr, hl3, hl4, hk4⟩ := out (some c) W3 hk3
        exact ⟨_, _, hr, rfl, c, (hIx c).putObj _ hi3 (by simp only [B]; omega) hl3 rfl, hl4, hk4⟩
      rintro e a3 W3 hp
      cases e with
      | normal =>
        obtain ⟨hk3, hkp3, hi3⟩ := hp
        obtain ⟨hr, hl3, hl4, hk4⟩ := out none W3 hk3
        exact ⟨_, _, hr, .inl ⟨rfl, ⟨hI.putObj _ hi3 (by simp only [B]; omega) hl3 rfl, hl4, hk4⟩, hKt hkp (hKt (hKt hw2 hkp3) (hKb _ _ _ _ (by simp only [B]; omega) hl3 rfl rfl))⟩⟩
      | ret =>
        obtain ⟨v, W4, hr, rfl, hx4⟩ := leave .ret W3 hp.1 hp.2
        exact ⟨_, _, hr, .inr (.inl ⟨rfl, hx4⟩)⟩
      | exit id =>
        obtain ⟨v, W4, hr, rfl, hx4⟩ := leave (.exit id) W3 hp.1 hp.2
        exact ⟨_, _, hr, .inr (.inl ⟨rfl, hx4⟩)⟩
      | goto t =>
        obtain ⟨v, W4, hr, rfl, hx4⟩ := leave (.goto t) W3 hp.1 hp.2
        exact ⟨_, _, hr, .inr (.inl ⟨rfl, hx4⟩)⟩
      | panic ch =>
        obtain ⟨hd, hk3, hip⟩ := hp
        exact ⟨hd, .inr (.inr ⟨ch, rfl, hip, hk3.same _ _ (Nat.le_refl _) hk2 rfl⟩)⟩
      | outgrown => exact hp.elim
    · rintro e W2 (⟨⟨v, rfl⟩, (⟨xs, hS, hi, hl, hk⟩ | ⟨pre, hSp, c, hi, hl, hk⟩)⟩ | ⟨ch, pre, rfl, hSp, hip⟩)
      · exact ⟨none, _, run_endLoop (P := P) hl (by simp [rec_]), hdone _ xs _ (Nat.le_refl _) (hSo.putObj _ hS (by simp only [B]; omega) hl rfl) (hI.putObj _ hi (by simp only [B]; omega) hl rfl) ((World.putObj_heap_other (by omega)).trans hk)⟩
      · exact ⟨some c, _, run_endLoop (P := P) hl (by simp [rec_]), hstop _ c pre _ (Nat.le_refl _) hSp ((hIx c).putObj _ hi (by simp only [B]; omega) hl rfl) ((World.putObj_heap_other (by omega)).trans hk)⟩
      · exact hpan B ch pre W2 (Nat.le_refl _) hSp hip.1 hip.2
end Go.Ear
namespace Go.Ear
open Go.RowKit

/-- It holds however the world grows. -/
def GrowsOnly {β : Type} (J : β → World → Prop) : Prop := ∀ s W W', J s W → W.grownBy W' none → J s W'
/-- .. and whatever is written to a loop's own mark. -/
def OwnL {β : Type} (B : Nat) (I : β → World → Prop) : Prop := GrowsOnly I ∧ ∀ s W (l : Nat) (r : Loop) (o' : Obj), I s W → B ≤ l → W.heap[l]? = some (.loop r) → I s (W.putObj l o')
theorem OwnL.alloc {β : Type} {B : Nat} {I : β → World → Prop} (h : OwnL B I) {s : β} {W : World} (o : Obj) (hs : I s W) : I s (W.alloc o) := h.1 s W _ hs (World.grownBy_alloc W o none)
/-- An iterator's contract: each round is told 'Gv pre x W1'; behind it 'S xs W'' holds. -/
def SeqGivenQ {α : Type} (F : Fence) (n : Nat) (P : Program) (g : Nat) (lb : Array Value) (encs : α → Array Value) (Kp : World → World → Prop) (Gv : List α → α → World → Prop) (S : List α → World → Prop) (Sp : List α → Prop) (N : Nat) (w : World) : Prop :=
  ∀ (l : Nat) (J Jx : List α → World → Prop) (Jp : List PanicEntry → List α → World → Prop) (W : World), Below w.heap.size w W → GrowsOnly J → GrowsOnly Jx →
    (∀ pre x W1, J pre W1 → Gv pre x W1 → pre.length < N → YieldAt F (n - 1) P l (encs x) W1 fun e W' =>
      (e = .returned (.bool true) ∧ J (pre ++ [x]) W' ∧ Kp W1 W') ∨ (e = .returned (.bool false) ∧ Jx (pre ++ [x]) W') ∨ (∃ ch, e = .panicked ch ∧ Jp ch (pre ++ [x]) W')) →
    J [] W →
    CallsIn F n P g (#[.func (.yield l) #[] #[]] ++ lb) W fun e W' => ((∃ v, e = .returned v) ∧ ((∃ xs, S xs W' ∧ J xs W') ∨ (∃ pre, Sp pre ∧ Jx pre W'))) ∨ (∃ ch pre, e = .panicked ch ∧ Sp pre ∧ Jp ch pre W')

variable {F : Fence} {n : Nat} {P : Program}
theorem wpIn_range_givenQ {α : Type} {g : Operand} {ps : Array Tmp} {assign body : Code} {Q : Exit → Act → World → Prop} {a : Act} {w : World}
    (hro : F.round = none) (h1 : 1 ≤ n) {gf : Nat} {lb : Array Value} (hg : a.eval g = .func (.func gf) #[] lb) (hFg : F.fn gf) (eg : ∀ args w, (callFunc gf args).run P w = .ok (.enter gf args) w)
    {encs : α → Array Value} {Kp : World → World → Prop} {Gv : List α → α → World → Prop} {S : List α → World → Prop} {Sp : List α → Prop} {N : Nat} {w0 : World} (hseq : SeqGivenQ F (n - 1) P gf lb encs Kp Gv S Sp N w0)
    (hKt : ∀ {A B C : World}, Kp A B → Kp B C → Kp A C) (hKb : ∀ (W : World) (l : Nat) (o o' : Obj), w.heap.size ≤ l → W.heap[l]? = some o → o.isCells = false → o.isWalk = false → Kp W (W.putObj l o'))
    (hb0 : Below w0.heap.size w0 w) (hps : ∀ x, (encs x).size = ps.size)
    (hGv : ∀ pre x, OwnL w.heap.size (fun (_ : Unit) W => Gv pre x W)) (hSo : OwnL w.heap.size S)
    (I : List α → World → Prop) (Ix : Code → List α → World → Prop) (hI : OwnL w.heap.size I) (hIx : ∀ c, OwnL w.heap.size (Ix c)) (Ip : List PanicEntry → List α → World → Prop) (h0 : I [] w) (Ax : α → Act → World → Prop) (hAx : ∀ x a', OwnL w.heap.size (fun (_ : Unit) W => Ax x a' W))
    (hassign : ∀ (l : Nat) (pre : List α) (x : α) (W : World) (K : Act → World → Prop), I pre W → Gv pre x W → (∀ a' W', KeepsFrom w.heap.size W W' → Kp W W' → I pre W' → Gv pre x W' → Ax x a' W' → K a' W') →
      assign.wpIn (F.inRound l) (n - 1 - 1) P (Exit.then K (fun _ _ _ => False)) { tmps := (ps.zip (encs x)).foldl (fun t (p, v) => t.setIfInBounds p v) a.tmps, defers := [] } W)
    (hbody : ∀ (l : Nat) (pre : List α) (x : α) (a' : Act) (W : World), w.heap.size ≤ l → (∃ r, W.heap[l]? = some (.loop r)) → I pre W → Gv pre x W → Ax x a' W → pre.length < N → body.wpIn (F.inRound l) (n - 1 - 1) P (ownPostP w.heap.size Kp I Ix Ip (pre ++ [x]) W) a' W)
    (hdone : ∀ (D : Nat) (xs : List α) (W : World), w.heap.size ≤ D → S xs W → I xs W → W.heap[D]? = some (.deferred (some [])) → Q .normal { a with defers := { target := .collected D, args := #[] } :: a.defers } W)
    (hpan : ∀ (D : Nat) (ch : List PanicEntry) (pre : List α) (W : World), w.heap.size ≤ D → Sp pre → Ip ch pre W → W.heap[D]? = some (.deferred (some [])) → Q (.panic ch) { a with defers := { target := .collected D, args := #[] } :: a.defers } W)
    (hstop : ∀ (D : Nat) (c : Code) (pre : List α) (W : World), w.heap.size ≤ D → Sp pre → Ix c pre W → W.heap[D]? = some (.deferred (some [])) → c.wpIn F n P Q { a with defers := { target := .collected D, args := #[] } :: a.defers } W) :
    (Code.rangeFunc g ps assign body).wpE F n P Q a w := by
  refine wpE_rangeFunc fun fn hxf hfn => ?_
  rw [hro]
  let rec_ : LoopState → Option Code → Loop := fun st pe => { state := st, pending := pe, fn, tmps := a.tmps, params := ps, assign, body, defers := w.heap.size }
  let B := w.heap.size
  let W1 := (w.alloc (.deferred (some []))).alloc (.loop (rec_ .ready none))
  have hL1 : W1.heap[B + 1]? = some (.loop (rec_ .ready none)) := by
    have := World.alloc_heap_new (w.alloc (.deferred (some []))) (.loop (rec_ .ready none)); rwa [World.size_alloc] at this
  have hK1 : W1.heap[B]? = some (.deferred (some [])) := (Below.heap_alloc _ _ _ (by simp [B])).trans (World.alloc_heap_new w _)
  have hI1 : I [] W1 := hI.alloc _ (hI.alloc _ h0)
  have hb1 : Below w0.heap.size w0 W1 := hb0.trans ((((Below.refl _ w).alloc (Nat.le_refl _) _).alloc (by simp) _).mono hb0.size)
  have hsz : W1.heap.size = B + 1 + 1 := by simp [W1, B]
  refine ⟨B + 1, [{ target := .collected B, args := #[] }], W1, { target := .fn (.func gf) lb, args := #[.func (.yield (B + 1)) #[] #[]] }, W1, gf, #[.func (.yield (B + 1)) #[] #[]] ++ lb, W1, ?_, ?_, ?_, ?_, fun _ => h1, ?_⟩
  · exact run_enterLoop_outer _ _ _ _ _
  · simp only [resolve, hg]
    simp [go_sem]
  · intro f' hf'
    simp [Target.leads] at hf'
    subst hf'
    exact hFg
  · simp [invoke, go_sem, eg]
  · let J : List α → World → Prop := fun pre W => I pre W ∧ W.heap[B + 1]? = some (.loop (rec_ .ready none)) ∧ W.heap[B]? = some (.deferred (some []))
    let Jx : List α → World → Prop := fun pre W => ∃ c, Ix c pre W ∧ W.heap[B + 1]? = some (.loop (rec_ .done (some c))) ∧ W.heap[B]? = some (.deferred (some []))
    have hgk : ∀ {A A' : World} {k : Nat} {o : Obj}, A.grownBy A' none → A.heap[k]? = some o → A'.heap[k]? = some o := fun hg hk => (hg.block _ (Array.getElem?_eq_some_iff.1 hk).1 (fun e => nomatch e)).trans hk
    have hJ : GrowsOnly J := fun s A _ hs hg' => ⟨hI.1 s A _ hs.1 hg', hgk hg' hs.2.1, hgk hg' hs.2.2⟩
    have hJx : GrowsOnly Jx := fun s A _ hs hg' => by
      obtain ⟨c, hc, hl, hk⟩ := hs
      exact ⟨c, (hIx c).1 s A _ hc hg', hgk hg' hl, hgk hg' hk⟩
    refine (hseq (B + 1) J Jx (fun ch pre W => Ip ch pre W ∧ W.heap[B]? = some (.deferred (some []))) W1 hb1 hJ hJx ?_ ⟨hI1, hL1, hK1⟩).mono ?_
    · rintro pre x W ⟨hi, hl, hk⟩ hgx hlen
      have hy := run_yield (P := P) (args := encs x) hl (hps x)
      refine ⟨fn, _, assign, body, hy, roundIn_of_wpIn_pan hfn hxf (hassign _ pre x W _ hi hgx fun a' Wa hkf hkp hia hga hax => ?_)⟩
      have hl' := (hkf.same _ _ (by simp only [B]; omega) hl rfl)
      have hk' := (hkf.same _ _ (Nat.le_refl _) hk rfl)
      have hlt := (Array.getElem?_eq_some_iff.1 hl').1
      refine ⟨_, run_beginRound hl' rfl, ?_⟩
      let bz : Obj := .loop { rec_ .ready none with state := .busy }
      have hl2 : (Wa.putObj (B + 1) bz).heap[B + 1]? = some bz := World.putObj_heap_same hlt
      have hk2 : (Wa.putObj (B + 1) bz).heap[B]? = some (.deferred (some [])) := (World.putObj_heap_other (by omega)).trans hk'
      have hw2 : Kp Wa (Wa.putObj (B + 1) bz) := hKb _ _ _ _ (by simp only [B]; omega) hl' rfl rfl
      refine wpIn_mono (hbody _ pre x a' _ (by simp only [B]; omega) ⟨_, hl2⟩ (hI.2 _ _ _ _ _ hia (by simp only [B]; omega) hl') ((hGv pre x).2 () _ _ _ _ hga (by simp only [B]; omega) hl') ((hAx x a').2 () _ _ _ _ hax (by simp only [B]; omega) hl') hlen) ?_
      have out : ∀ (jump : Option Code) (W3 : World), KeepsFrom w.heap.size (Wa.putObj (B + 1) bz) W3 →
          (Instr.endRound (B + 1) jump).run P W3 = .ok (.bool jump.isNone) (W3.putObj (B + 1) (.loop (rec_ (if jump.isNone then .ready else .done) jump))) ∧ W3.heap[B + 1]? = some bz ∧
          (W3.putObj (B + 1) (.loop (rec_ (if jump.isNone then .ready else .done) jump))).heap[B + 1]? = some (.loop (rec_ (if jump.isNone then .ready else .done) jump)) ∧
          (W3.putObj (B + 1) (.loop (rec_ (if jump.isNone then .ready else .done) jump))).heap[B]? = some (.deferred (some [])) := fun jump W3 hk3 => by
        have hl3 := hk3.same _ _ (by simp only [B]; omega) hl2 rfl
        exact ⟨run_endRound (P := P) jump hl3, hl3, World.putObj_heap_same (Array.getElem?_eq_some_iff.1 hl3).1, (World.putObj_heap_other (by omega)).trans (hk3.same _ _ (Nat.le_refl _) hk2 rfl)⟩
      have leave : ∀ (c : Code) (W3 : World), KeepsFrom w.heap.size (Wa.putObj (B + 1) bz) W3 → Ix c (pre ++ [x]) W3 → ∃ v W4, (Instr.endRound (B + 1) (some c)).run P W3 = .ok v W4 ∧ v = .bool false ∧ Jx (pre ++ [x]) W4 := fun c W3 hk3 hi3 => by
        obtain ⟨hr, hl3, hl4, hk4⟩ := out (some c) W3 hk3
        exact ⟨_, _, hr, rfl, c, (hIx c).2 _ _ _ _ _ hi3 (by simp only [B]; omega) hl3, hl4, hk4⟩
      rintro e a3 W3 hp
      cases e with
      | normal =>
        obtain ⟨hk3, hkp3, hi3⟩ := hp
        obtain ⟨hr, hl3, hl4, hk4⟩ := out none W3 hk3
        exact ⟨_, _, hr, .inl ⟨rfl, ⟨hI.2 _ _ _ _ _ hi3 (by simp only [B]; omega) hl3, hl4, hk4⟩, hKt hkp (hKt (hKt hw2 hkp3) (hKb _ _ _ _ (by simp only [B]; omega) hl3 rfl rfl))⟩⟩
      | ret =>
        obtain ⟨v, W4, hr, rfl, hx4⟩ := leave .ret W3 hp.1 hp.2
        exact ⟨_, _, hr, .inr (.inl ⟨rfl, hx4⟩)⟩
      | exit id =>
        obtain ⟨v, W4, hr, rfl, hx4⟩ := leave (.exit id) W3 hp.1 hp.2
        exact ⟨_, _, hr, .inr (.inl ⟨rfl, hx4⟩)⟩
      | goto t =>
        obtain ⟨v, W4, hr, rfl, hx4⟩ := leave (.goto t) W3 hp.1 hp.2
        exact ⟨_, _, hr, .inr (.inl ⟨rfl, hx4⟩)⟩
      | panic ch =>
        obtain ⟨hd, hk3, hip⟩ := hp
        exact ⟨hd, .inr (.inr ⟨ch, rfl, hip, hk3.same _ _ (Nat.le_refl _) hk2 rfl⟩)⟩
      | outgrown => exact hp.elim
    · rintro e W2 (⟨⟨v, rfl⟩, (⟨xs, hS, hi, hl, hk⟩ | ⟨pre, hSp, c, hi, hl, hk⟩)⟩ | ⟨ch, pre, rfl, hSp, hip⟩)
      · exact ⟨none, _, run_endLoop (P := P) hl (by simp [rec_]), hdone _ xs _ (Nat.le_refl _) (hSo.2 _ _ _ _ _ hS (by simp only [B]; omega) hl) (hI.2 _ _ _ _ _ hi (by simp only [B]; omega) hl) ((World.putObj_heap_other (by omega)).trans hk)⟩
      · exact ⟨some c, _, run_endLoop (P := P) hl (by simp [rec_]), hstop _ c pre _ (Nat.le_refl _) hSp ((hIx c).2 _ _ _ _ _ hi (by simp only [B]; omega) hl) ((World.putObj_heap_other (by omega)).trans hk)⟩
      · exact hpan B ch pre W2 (Nat.le_refl _) hSp hip.1 hip.2
end Go.Ear
