/- BagGoes. -/
import Derived.Test.YteemkceceaabkaaN
import Derived.Test.YteemkceceaabkaaU
import Derived.Test.YteemkceceaabkaaR
import Derived.Test.YteemkceceaabkaaRi
import Derived.Test.YteemkceceaabkaaHs
namespace Go.Proofs.Yteemkceceaabkaa
open Go.RowKit Go.Ear Go.Shelf
attribute [local go_sem] Oper.semAt_some
set_option maxHeartbeats 2000000
set_option maxRecDepth 100000

/-- Lists of bytes in memory. -/
structure Dat (w : World) (A : Option Addr) (rows : List (List UInt8)) : Prop where
  cells : ∀ k d, rows[k]? = some d → ∃ b off D c, A = some ⟨b, off, none⟩ ∧ b < w.heap.size ∧ w.cell? ⟨b, off + k, none⟩ = some (.slice D d.length c) ∧ SL w (.slice D d.length c) d.length 1 (bv d)
theorem Dat.grow {w w' : World} {A : Option Addr} {rows : List (List UInt8)} (h : Dat w A rows) (hc : Chg Noth w w') : Dat w' A rows := by
  refine ⟨fun k d hd => ?_⟩
  obtain ⟨b, off, D, c, rfl, hb, hce, hs⟩ := h.cells k d hd
  exact ⟨b, off, D, c, rfl, Nat.lt_of_lt_of_le hb hc.size, (hc.cell (p := ⟨b, off + k, none⟩) hb (fun e => e)).trans hce, hs.grow hc⟩

def goG (i : Nat) (d : List UInt8) : Gm := ⟨(i : Int) + 1, i, -(i : Int), d⟩
def goS (rows : List (List UInt8)) : List Gm := rows.mapIdx goG
theorem goS_snoc (rows : List (List UInt8)) (k : Nat) (d : List UInt8) (h : rows[k]? = some d) : goS (rows.take (k + 1)) = goS (rows.take k) ++ [⟨(k : Int) + 1, k, -(k : Int), d⟩] := by
  unfold goS
  rw [List.take_add_one, h]
  simp only [Option.toList_some, List.mapIdx_append, List.mapIdx_cons, List.mapIdx_nil, List.length_take]
  have hk := (List.getElem?_eq_some_iff.1 h).1
  rw [Nat.min_eq_left (by omega)]
  simp [goG]
theorem goS_len (rows : List (List UInt8)) : (goS rows).length = rows.length := by simp [goS]
theorem goS_get (rows : List (List UInt8)) (k : Nat) : (goS rows)[k]? = rows[k]?.map (goG k) := by simp [goS]

/-- The boxes of the law. -/
structure Bx (w : World) (b5 : Nat) (A : Option Addr) (n c : Nat) (stop : Int) (W : World) : Prop where
  chg : Chg Noth w W
  h5 : w.heap.size + 4 ≤ b5
  b2 : W.heap[w.heap.size]? = some (.cells #[.slice A n c] 22 (0, 0))
  b3 : W.heap[w.heap.size + 1]? = some (.cells #[i64 stop] 3 (0, 0))
  b4 : W.heap[w.heap.size + 1 + 1]? = some (.cells #[.bool false] 4 (0, 0))
  b5 : W.heap[b5]? = some (.cells #[.pointer (some ⟨w.heap.size + 1 + 1 + 1, 0, none⟩)] 24 (0, 0))
/-- The bag's blocks are none of them. -/
def Fr (w : World) (b5 : Nat) (F : Nat → Prop) : Prop := ∀ k, F k → w.heap.size + 3 ≤ k ∧ k ≠ b5
theorem Bx.chg' {w : World} {A : Option Addr} {b5 n c : Nat} {stop : Int} {W W' : World} {F : Nat → Prop} (h : Bx w b5 A n c stop W) (hc : Chg F W W') (hF : Fr w b5 F) : Bx w b5 A n c stop W' := by
  have hs : b5 < W.heap.size := (Array.getElem?_eq_some_iff.1 h.b5).1
  have h5 := h.h5
  exact ⟨h.chg.trans hc fun k hk e => by have := hF k e; omega, h5, (hc.block _ (by omega) fun e => by have := hF _ e; omega).trans h.b2, (hc.block _ (by omega) fun e => by have := hF _ e; omega).trans h.b3,
    (hc.block _ (by omega) fun e => by have := hF _ e; omega).trans h.b4, (hc.block _ (by omega) fun e => by have := hF _ e; omega).trans h.b5⟩
theorem Bx.grow {w : World} {A : Option Addr} {b5 n c : Nat} {stop : Int} {W W' : World} (h : Bx w b5 A n c stop W) (hc : Chg Noth W W') : Bx w b5 A n c stop W' := h.chg' hc fun _ e => e.elim
theorem Bx.cells {w : World} {A : Option Addr} {b5 n c : Nat} {stop : Int} {W : World} (h : Bx w b5 A n c stop W) : W.cell? ⟨w.heap.size, 0, none⟩ = some (.slice A n c) ∧ W.cell? ⟨w.heap.size + 1, 0, none⟩ = some (i64 stop) ∧ W.cell? ⟨w.heap.size + 1 + 1, 0, none⟩ = some (.bool false) ∧
    W.cell? ⟨b5, 0, none⟩ = some (.pointer (some ⟨w.heap.size + 1 + 1 + 1, 0, none⟩)) ∧ W.frozen? ⟨w.heap.size + 1 + 1, 0, none⟩ = false ∧ b5 < W.heap.size :=
  ⟨by rw [cell_of_row _ _ 0 _ _ _ h.b2]; rfl, by rw [cell_of_row _ _ 0 _ _ _ h.b3]; rfl, by rw [cell_of_row _ _ 0 _ _ _ h.b4]; rfl, by rw [cell_of_row _ _ 0 _ _ _ h.b5]; rfl, frozen_of_row _ _ 0 _ _ h.b4, (Array.getElem?_eq_some_iff.1 h.b5).1⟩

/-- What the body owes, no panic. -/
def bodyPostN (n : Nat) (P : Program) (fn : Func) (R : Ending → World → Prop) : Exit → Act → World → Prop
  | .normal, a, w => LeavesInM Fence.wide n P fn a.tmps R a.defers .returning w
  | .ret, a, w => LeavesInM Fence.wide n P fn a.tmps R a.defers .returning w
  | _, _, _ => False
theorem calls_marks {P : Program} {f : FuncId} {fn : Func} {c : Code} {args : Array Value} {w : World} {R : Ending → World → Prop} (n : Nat) (hf : P.funcs[f]? = some fn) (hb : fn.body = some c)
    (h : c.wp P (bodyPostN n P fn R) { tmps := args ++ Array.replicate (fn.ntmps - args.size) undef, defers := [] } w) : Calls P f args w R :=
  (callsIn_wide (n := n)).1 (callsIn_of_wp_marks hf hb trivial (wpIn_wide.2 (Code.wp_mono (fun e _ _ q => by cases e <;> first | exact q | exact q.elim) h)) rfl)

/-- The law for a range whose rounds are told, the round's frame reckoned off the loop's. -/
theorem wpIn_range_act {α β : Type} {F : Fence} {n : Nat} {P : Program} {g : Operand} {ps : Array Tmp} {assign body : Code} {Q : Exit → Act → World → Prop} {a : Act} {w : World}
    (hro : F.round = none) (h1 : 1 ≤ n) {gf : Nat} {lb : Array Value} (hg : a.eval g = .func (.func gf) #[] lb) (hFg : F.fn gf) (eg : ∀ args w, (callFunc gf args).run P w = .ok (.enter gf args) w)
    {encs : α → Array Value} {Kp : World → World → Prop} {Gv : List α → α → World → Prop} {S : List α → World → Prop} {Sp : List α → Prop} {N : Nat} (hseq : SeqGiven F (n - 1) P gf lb encs Kp Gv S Sp N w)
    (hKt : ∀ {A B C : World}, Kp A B → Kp B C → Kp A C) (hKb : ∀ (W : World) (l : Nat) (o o' : Obj), w.heap.size ≤ l → W.heap[l]? = some o → o.isCells = false → o.isWalk = false → Kp W (W.putObj l o'))
    (hps : ∀ x, (encs x).size = ps.size)
    (hGv : ∀ pre x, OwnFrom w.heap.size (fun (_ : Unit) W => Gv pre x W)) (hSo : OwnFrom w.heap.size S)
    (I : List α → World → Prop) (Ix : Code → List α → World → Prop) (hI : OwnFrom w.heap.size I) (hIx : ∀ c, OwnFrom w.heap.size (Ix c)) (h0 : I [] w) (Bv : α → β → World → Prop) (hBv : ∀ x v, OwnFrom w.heap.size (fun (_ : Unit) W => Bv x v W)) (f : α → β → Array Value → Array Value)
    (hassign : ∀ (l : Nat) (pre : List α) (x : α) (W : World) (K : Act → World → Prop), I pre W → Gv pre x W → (∀ v W', KeepsFrom w.heap.size W W' → Kp W W' → I pre W' → Gv pre x W' → Bv x v W' → K { tmps := f x v ((ps.zip (encs x)).foldl (fun t (p, v) => t.setIfInBounds p v) a.tmps), defers := [] } W') →
      assign.wpIn (F.inRound l) (n - 1 - 1) P (Exit.then K (fun _ _ _ => False)) { tmps := (ps.zip (encs x)).foldl (fun t (p, v) => t.setIfInBounds p v) a.tmps, defers := [] } W)
    (hbody : ∀ (l : Nat) (pre : List α) (x : α) (v : β) (W : World), w.heap.size ≤ l → I pre W → Gv pre x W → Bv x v W → pre.length < N → body.wpIn (F.inRound l) (n - 1 - 1) P (ownPostG w.heap.size Kp I Ix (pre ++ [x]) W) { tmps := f x v ((ps.zip (encs x)).foldl (fun t (p, v) => t.setIfInBounds p v) a.tmps), defers := [] } W)
    (hdone : ∀ (D : Nat) (xs : List α) (W : World), w.heap.size ≤ D → S xs W → I xs W → W.heap[D]? = some (.deferred (some [])) → Q .normal { a with defers := { target := .collected D, args := #[] } :: a.defers } W)
    (hstop : ∀ (D : Nat) (c : Code) (pre : List α) (W : World), w.heap.size ≤ D → Sp pre → Ix c pre W → W.heap[D]? = some (.deferred (some [])) → c.wpIn F n P Q { a with defers := { target := .collected D, args := #[] } :: a.defers } W) :
    (Code.rangeFunc g ps assign body).wpIn F n P Q a w := by
  refine wpIn_range_given hro h1 hg hFg eg hseq hKt hKb (Below.refl _ _) hps hGv hSo I Ix hI hIx h0
    (fun x a' W => ∃ v, a' = { tmps := f x v ((ps.zip (encs x)).foldl (fun t (p, v) => t.setIfInBounds p v) a.tmps), defers := [] } ∧ Bv x v W) ?_ ?_ ?_ hdone hstop
  · rintro x a' _ A B row ⟨v, h1, h2⟩ hg hr
    exact ⟨v, h1, hBv x v () A B row h2 hg hr⟩
  · exact fun l pre x W K hi hg hK => hassign l pre x W K hi hg fun v W' k1 k2 k3 k4 k5 => hK _ W' k1 k2 k3 k4 ⟨v, rfl, k5⟩
  · rintro l pre x a' W hl _ hi hg ⟨v, rfl, hv⟩ hlt
    exact hbody l pre x v W hl hi hg hv hlt

/-- Between two rounds of the law's loop. -/
structure IGo (w : World) (b5 b10 n0 : Nat) (A : Option Addr) (n c : Nat) (stop : Int) (F : Nat → Prop) (Ds : List Nat) (lo hi : Nat) (Z0 : World) (pre : List Got) (W : World) : Prop where
  sz : n0 ≤ W.heap.size
  bx : Bx w b5 A n c stop W
  bag : ∃ B, IsBag W (w.heap.size + 1 + 1 + 1) B F
  cnt : W.heap[b10]? = some (.cells #[i64 pre.length] 3 (0, 0))
  ds : ∀ D ∈ Ds, W.heap[D]? = some (.deferred (some []))
  ex : ∀ q, lo ≤ q → q < hi → W.heap[q]? = Z0.heap[q]?
theorem isbag_kept {W W' : World} {row : Option Nat} {p : Nat} {B : BagS} {F : Nat → Prop} (h : IsBag W p B F) (hg : W.grownBy W' row) (hr : ∀ r, row = some r → ∃ o : Obj, W.heap[r]? = some o ∧ o.isCells = false) : IsBag W' p B F := by
  obtain ⟨gs, vs, hR, hF⟩ := h
  exact ⟨gs, vs, { hR with
    blk := blk_kept hR.blk hg hr
    own := row_kept hR.own hg hr
    data := fun i g v hg' hv => row_kept (hR.data i g v hg' hv) hg hr }, hF⟩
theorem igo_own (w : World) (b5 b10 n0 : Nat) (A : Option Addr) (n c : Nat) (stop : Int) (F : Nat → Prop) (Ds : List Nat) (lo hi : Nat) (Z0 : World) (h0 : w.heap.size ≤ n0) (hDs : ∀ D ∈ Ds, D < n0) (hhi : hi ≤ n0) : OwnFrom n0 (IGo w b5 b10 n0 A n c stop F Ds lo hi Z0) := fun pre X Y row hs hg hr => by
  have hr' : ∀ r, row = some r → ∃ o : Obj, X.heap[r]? = some o ∧ o.isCells = false := fun r e => (hr r e).2
  obtain ⟨B, hB⟩ := hs.bag
  exact ⟨Nat.le_trans hs.sz hg.size, ⟨chg_kept hs.bx.chg hg fun r e => by have := (hr r e).1; omega, hs.bx.h5, blk_kept hs.bx.b2 hg hr', blk_kept hs.bx.b3 hg hr', blk_kept hs.bx.b4 hg hr', blk_kept hs.bx.b5 hg hr'⟩, ⟨B, isbag_kept hB hg hr'⟩, blk_kept hs.cnt hg hr',
    fun D hD => (hg.block D (Array.getElem?_eq_some_iff.1 (hs.ds D hD)).1 fun e => by have := (hr D e.symm).1; have := hDs D hD; omega).trans (hs.ds D hD),
    fun q h1 h2 => (hg.block q (by have := hs.sz; omega) fun e => by have := (hr q e.symm).1; omega).trans (hs.ex q h1 h2)⟩
/-- What a round leaves. -/
theorem IGo.step {w : World} {b5 b10 n0 : Nat} {A : Option Addr} {n c : Nat} {stop : Int} {F : Nat → Prop} {Ds : List Nat} {lo hi : Nat} {Z0 : World} {pre : List Got} {x : Got} {W W1 : World} {B : BagS} {v : Int} (h : IGo w b5 b10 n0 A n c stop F Ds lo hi Z0 pre W) (hc : Chg F W W1) (hB : IsBag W1 (w.heap.size + 1 + 1 + 1) B F) (hfr : Fr w b5 F)
    (hFb : ∀ q, F q → q ≠ b10 ∧ q < n0) (hb : w.heap.size + 3 ≤ b10 ∧ b10 ≠ b5 ∧ b10 < n0) (hDs : ∀ D ∈ Ds, ¬ F D ∧ D ≠ b10) (hv : v = pre.length + 1) (hlo : ∀ q, F q → q < lo ∨ hi ≤ q) (hhi : hi ≤ b10) :
    Chg (fun q => F q ∨ q = b10) W (W1.setCell ⟨b10, 0, none⟩ (i64 v)) ∧ IGo w b5 b10 n0 A n c stop F Ds lo hi Z0 (pre ++ [x]) (W1.setCell ⟨b10, 0, none⟩ (i64 v)) := by
  have iM : May b10 (fun q => F q ∨ q = b10) W := ⟨.inl (.inr rfl)⟩
  have hZ : Chg (fun q => F q ∨ q = b10) W (W1.setCell ⟨b10, 0, none⟩ (i64 v)) := chg_set (hc.mono fun _ _ e => .inl e) _ _ _
  have iM1 : May b10 (fun q => q = b10) W1 := ⟨.inl rfl⟩
  have hc1 : Chg (fun q => q = b10) W1 (W1.setCell ⟨b10, 0, none⟩ (i64 v)) := chg_set (Chg.refl _ _) _ _ _
  have hcnt : W1.heap[b10]? = some (.cells #[i64 pre.length] 3 (0, 0)) := (hc.block _ (Array.getElem?_eq_some_iff.1 h.cnt).1 fun e => (hFb _ e).1 rfl).trans h.cnt
  refine ⟨hZ, Nat.le_trans h.sz hZ.size, h.bx.chg' hZ (fun q hq => ?_), ⟨B, hB.chg hc1 fun q hq => (hFb q hq).1⟩, ?_, fun D hD => (hZ.block D (Array.getElem?_eq_some_iff.1 (h.ds D hD)).1 fun e => ?_).trans (h.ds D hD), fun q h1 h2 => (hZ.block q (by have := h.sz; omega) fun e => ?_).trans (h.ex q h1 h2)⟩
  · rcases hq with hq | hq
    · exact hfr q hq
    · exact ⟨by omega, by omega⟩
  · have := heap_setCell_same W1 b10 0 _ _ (i64 v) hcnt
    rw [hv] at this ⊢
    simpa using this
  · rcases e with e | e
    · exact (hDs D hD).1 e
    · exact (hDs D hD).2 e
  · rcases e with e | e
    · have := hlo q e; omega
    · omega

theorem GL.kept {A B : World} {base : Nat} {gs : Value} {vs : List Value} {l : List Gm} (h : GL A base gs vs l) (hk : ∀ q, (gs.ownBlock = some q ∨ ∃ v ∈ vs, v.ownBlock = some q) → B.heap[q]? = A.heap[q]?) : GL B base gs vs l :=
  ⟨own_kept h.own fun q hq => hk q (.inl hq), h.len, fun i g v hg hv => own_kept (h.data i g v hg hv) fun q hq => hk q (.inr ⟨v, List.mem_of_getElem? hv, hq⟩)⟩

theorem goes_any (rows : List (List UInt8)) (A : Option Addr) (c : Nat) (stop : Int) (w : World) (hD : Dat w A rows) :
    Calls Try.prog 3 #[.slice A rows.length c, i64 stop] w (Gr (.bool true) w) := by
  obtain ⟨n, hn⟩ : ∃ n, n = rows.length := ⟨_, rfl⟩
  rw [← hn]
  have HN := Lib.hid hn
  clear hn
  have hnew := new_good 50
  refine calls_marks 5 Try.func3 rfl ?_
  simp only [Try.ntmps3, List.size_toArray, List.length_cons, List.length_nil, Nat.reduceAdd, Nat.reduceSub, Array.replicate_succ, Array.replicate_zero, List.push_toArray, List.append_toArray, List.nil_append, List.cons_append]
  by_cases hbig : 40 < n
  · go_wp2_with (go_at_call 9; refine (alive_any _).mono ?_; rintro e w' ⟨rfl, g3, rfl⟩)
    have iM : May (w.heap.size + 1 + 1) Noth w := ⟨.inr (by omega)⟩
    exact ⟨.bool true, by simp [results, Try.results3, go_sem], rfl, muts_ex (by repeat (with_reducible first | exact Chg.refl _ _ | refine chg_m ?_ _ | refine chg_g ?_ _ | refine chg_alloc ?_ _ | refine chg_drew ?_ | refine chg_drewN ?_ _ | refine chg_set ?_ _ _ _))⟩
  · go_wp2_with (go_at_call 10; refine (hnew _ (by omega) (by omega)).mono ?_; rintro e w' ⟨rfl, ⟨g1, rfl⟩, hB⟩)
    simp only [World.size_alloc] at hB
    have hp1 : w.heap.size + 3 < g1.w.heap.size := hB.lt rfl
    have hX : Bx w g1.w.heap.size A n c stop (g1.w.alloc (.cells #[.pointer (some ⟨w.heap.size + 1 + 1 + 1, 0, none⟩)] 24)) := by
      refine ⟨by repeat (with_reducible first | exact Chg.refl _ _ | refine chg_m ?_ _ | refine chg_g ?_ _ | refine chg_alloc ?_ _ | refine chg_drew ?_ | refine chg_drewN ?_ _ | refine chg_set ?_ _ _ _), by omega, ?_, ?_, ?_, heap_alloc_new _ _⟩
      · rw [Below.heap_alloc _ _ _ (by omega), g1.h.block _ (by simp <;> omega) (fun e => e), Below.heap_alloc _ _ _ (by simp <;> omega), Below.heap_alloc _ _ _ (by simp)]
        exact heap_alloc_new _ _
      · rw [Below.heap_alloc _ _ _ (by omega), g1.h.block _ (by simp <;> omega) (fun e => e), Below.heap_alloc _ _ _ (by simp <;> omega)]
        exact heap_alloc_hs _ _ _
      · rw [Below.heap_alloc _ _ _ (by omega), g1.h.block _ (by simp <;> omega) (fun e => e)]
        exact heap_alloc_hs _ _ _
    have hBX : IsBag (g1.w.alloc (.cells #[.pointer (some ⟨w.heap.size + 1 + 1 + 1, 0, none⟩)] 24)) (w.heap.size + 1 + 1 + 1) ⟨50, 0, []⟩ (fun k => k = w.heap.size + 1 + 1 + 1) := hB.grow (by repeat (with_reducible first | exact Chg.refl _ _ | refine chg_m ?_ _ | refine chg_g ?_ _ | refine chg_alloc ?_ _ | refine chg_drew ?_ | refine chg_drewN ?_ _ | refine chg_set ?_ _ _ _))
    have hF0 : Fr w g1.w.heap.size (fun k => k = w.heap.size + 1 + 1 + 1) := fun k hk => by omega
    have HX := Lib.hid hX
    clear hX hB
    generalize hb5 : g1.w.heap.size = b5 at *
    have hB5 := Lib.hid hb5
    clear hb5
    go_loopw [7] (fun i wr => ∃ (k : Nat) (F : Nat → Prop), k ≤ n ∧ i = .int .i64 k ∧ Bx w b5 A n c stop wr ∧ IsBag wr (w.heap.size + 1 + 1 + 1) ⟨50, k, goS (rows.take k)⟩ F ∧ Fr w b5 F) (fun i _ => n - (intOf i).toNat)
    case atStart => exact ⟨0, _, Nat.zero_le _, rfl, HX.out, by simpa [goS] using hBX, hF0⟩
    case round =>
      obtain ⟨k, F, hk, rfl, hx, hbag, hfr⟩ := hrel
      obtain ⟨x2, x3, x4, x5, f4, l5⟩ := hx.cells
      have h5 := hx.h5
      have i2 : Old w.heap.size wr := ⟨by omega⟩
      have i4 : Old (w.heap.size + 1 + 1) wr := ⟨by omega⟩
      have i5 : Old b5 wr := ⟨l5⟩
      by_cases hlt : k < n
      · obtain ⟨d, hd⟩ : ∃ d, rows[k]? = some d := ⟨_, List.getElem?_eq_getElem (by have := HN.out; omega)⟩
        obtain ⟨b, off, D, dc, rfl, hb, hce, hs⟩ := hD.cells k d hd
        have hHD := Lib.hid hd
        clear hd
        have hcW := hx.chg
        have hce' : wr.cell? ⟨b, off + k, none⟩ = some (.slice D d.length dc) := (hcW.cell (p := ⟨b, off + k, none⟩) hb (fun e => e)).trans hce
        have ib : Old b wr := ⟨Nat.lt_of_lt_of_le hb hcW.size⟩
        by_cases hlong : 1000 < d.length
        · have ic : HasCell wr (w.heap.size + 1 + 1) 0 := ⟨by rw [x4]; rfl⟩
          have iM : May (w.heap.size + 1 + 1) Noth w := ⟨.inr (by omega)⟩
          go_wp2_with (go_at_call 9; refine (alive_any _).mono ?_; rintro e w' ⟨rfl, g3, rfl⟩)
          exact ⟨.bool true, by simp [results, Try.results3, go_sem], rfl, muts_ex (by repeat (with_reducible first | exact hcW | exact Chg.refl _ _ | refine chg_m ?_ _ | refine chg_g ?_ _ | refine chg_alloc ?_ _ | refine chg_drew ?_ | refine chg_drewN ?_ _ | refine chg_set ?_ _ _ _))⟩
        · have hkl : (goS (rows.take k)).length = k := by rw [goS_len, List.length_take]; have := HN.out; omega
          have es : sendS ⟨50, k, goS (rows.take k)⟩ k (-(k : Int)) d = (⟨50, (k + 1 : Nat), goS (rows.take (k + 1))⟩, (k : Int) + 1, 0) := by
            rw [goS_snoc rows k d hHD.out]
            simp only [sendS, putS]
            rw [if_neg (by omega), if_neg (by show ¬ ((goS (rows.take k)).length : Int) = 50; omega)]
            simp
          have hsend := fun W h hs' => send_any (w.heap.size + 1 + 1 + 1) ⟨50, k, goS (rows.take k)⟩ F k (-(k : Int)) D dc d W h hs' (fun hp q hq e => by have := hs.own_lt hp q hq; omega) (by omega) (by show (k : Int) < 1000000000000; omega)
          rw [es] at hsend
          simp only at hsend
          have HK := Lib.hid hkl
          have hwn : IntKind.i64.wrap (-(k : Int)) = -(k : Int) := by rw [IntKind.wrap_i64]; omega
          clear es hkl hHD hce
          go_wp2_with fail
          go_region_law (first
            | (go_simp; go_at_call 11; refine (hsend _ (hbag.grow (by repeat (with_reducible first | exact Chg.refl _ _ | refine chg_m ?_ _ | refine chg_g ?_ _ | refine chg_alloc ?_ _ | refine chg_drew ?_ | refine chg_drewN ?_ _ | refine chg_set ?_ _ _ _))) (hs.grow (by repeat (with_reducible first | exact hcW | exact Chg.refl _ _ | refine chg_m ?_ _ | refine chg_g ?_ _ | refine chg_alloc ?_ _ | refine chg_drew ?_ | refine chg_drewN ?_ _ | refine chg_set ?_ _ _ _)))).mono ?_; rintro e w' ⟨rfl, m, F', rfl, hB', hF'⟩))
          all_goals
            have hw1 : Bx w b5 (some ⟨b, off, none⟩) n c stop m.w := (hx.grow (chg_drew (Chg.refl _ _))).chg' m.h hfr
            have hfr' : Fr w b5 F' := fun q hq => by
              rcases hF' q hq with h | h
              · exact hfr q h
              · have h' : wr.heap.size ≤ q := h
                omega
            have H1 := Lib.hid hw1
            have H2 := Lib.hid hB'
            have H3 := Lib.hid hfr'
            clear hw1 hB' hfr' hF' hsend hx hbag hs hD hBX
            go_wp2
            go_roundw
            case rel => exact ⟨k + 1, F', by omega, by go_num, H1.out, H2.out, H3.out⟩
            case measure => simp [intOf]; omega
      · obtain rfl : k = n := by omega
        have hall12 := fun W h => all_walk (w.heap.size + 1 + 1 + 1) ⟨50, k, goS (rows.take k)⟩ F W h
        have hkl : (goS (rows.take k)).length = k := by rw [goS_len, List.length_take]; have := HN.out; omega
        have hrk : rows.take k = rows := by rw [HN.out, List.take_length]
        rw [hrk] at hall12 hkl hbag
        have HKL := Lib.hid hkl
        have HSm : Hid (∀ g ∈ goS rows, g.data.length ≤ 1024) := Lib.hid (by obtain ⟨_, _, hr, _⟩ := hbag; exact hr.small)
        have hnil : ∀ (q : Value) (W : World), (binOp .eql 32 (.func (.func 33) #[] #[q]) .nilFunc).run Try.prog W = .ok (.bool false) W := fun _ _ => by kernel_rfl
        have hFlt : ∀ q, F q → q < wr.heap.size := fun q hq => hbag.lt hq
        have hsend := fun W h => send_any (w.heap.size + 1 + 1 + 1) ⟨50, k, goS rows⟩ F 7 7 none 0 [] W h ⟨rfl, _, _, rfl, fun _ => ⟨rfl, rfl⟩, Nat.le_refl _, fun h => absurd h (by simp)⟩ (fun hp => absurd hp (by simp)) (by simp) (by show (k : Int) < 1000000000000; omega)
        have es : sendS ⟨50, k, goS rows⟩ 7 7 [] = (⟨50, (k : Int) + 1, goS rows ++ [⟨(k : Int) + 1, 7, 7, []⟩]⟩, (k : Int) + 1, 0) := by
          simp only [sendS, putS]
          rw [if_neg (by simp), if_neg (by show ¬ ((goS rows).length : Int) = 50; omega)]
        rw [es] at hsend
        simp only [List.length_nil] at hsend
        clear es hkl hrk
        go_wp2_with fail
        refine (hall12 _ hbag).mono ?_
        rintro e X ⟨rfl, g2, e2, gs, vs, hgl, hbx⟩
        have hCX : Chg Noth wr X := by rw [e2]; exact g2.h
        rw [← e2] at hgl hbx
        have hxX := hx.grow hCX
        have hbX := hbag.grow hCX
        have HGL := Lib.hid hgl
        have HBX := Lib.hid hbx
        clear e2 g2 hall12 hgl hbx hx hbag hBX
        have h5 := hxX.h5
        have hkn := HKL.out
        obtain ⟨y2, y3, y4, y5, fy4, ly5⟩ := hxX.cells
        have j2 : Old w.heap.size X := ⟨by omega⟩
        have j5 : Old b5 X := ⟨ly5⟩
        clear hkn x2 x3 x4 x5 f4
        go_wp2_with (first
          | (go_at_call 9; refine (alive_any _).mono ?_; rintro e w' ⟨rfl, g3, rfl⟩))
        refine (hsend _ (hbX.grow (by repeat (with_reducible first | exact Chg.refl _ _ | refine chg_m ?_ _ | refine chg_g ?_ _ | refine chg_alloc ?_ _ | refine chg_drew ?_ | refine chg_drewN ?_ _ | refine chg_set ?_ _ _ _)))).mono ?_
        rintro e Y ⟨rfl, m, F2, e2, hB2, hF2⟩
        have hCXY : Chg F X Y := by rw [e2]; exact (g3.h.mono fun _ _ e => e.elim).trans m.h fun _ _ e => e
        rw [← e2] at hB2
        have hxY := hxX.chg' hCXY hfr
        have hszX : wr.heap.size ≤ X.heap.size := hCX.size
        have hsz3 : X.heap.size ≤ g3.w.heap.size := g3.h.size
        have hglY : GL Y (wr.heap.size + 1) gs vs (goS rows) := HGL.out.chg hCXY fun q hq _ e => by have := hFlt q e; omega
        have hbxY : Y.heap[wr.heap.size]? = some (.cells #[gs] 49 (0, 0)) := (hCXY.block _ (by have := (Array.getElem?_eq_some_iff.1 HBX.out).1; omega) fun e => by have := hFlt _ e; omega).trans HBX.out
        have hfr2 : Fr w b5 F2 := fun q hq => by
          rcases hF2 q hq with h | h
          · exact hfr q h
          · omega
        have hapart : ∀ q, F2 q → q < wr.heap.size ∨ X.heap.size ≤ q := fun q hq => by
          rcases hF2 q hq with h | h
          · exact .inl (hFlt q h)
          · exact .inr (by omega)
        have hrowlt : ∀ q, (gs.ownBlock = some q ∨ ∃ v ∈ vs, v.ownBlock = some q) → wr.heap.size + 1 ≤ q ∧ q < X.heap.size := fun q hq => HGL.out.blk q hq
        have hbxlt : wr.heap.size < X.heap.size := (Array.getElem?_eq_some_iff.1 HBX.out).1
        have HGY := Lib.hid hglY
        have HBY := Lib.hid hbxY
        clear e2 m hsend hbX hxX hglY hbxY hF2 y2 y3 y4 y5 fy4 j2 j5
        obtain ⟨y2, y3, y4, y5, fy4, ly5⟩ := hxY.cells
        have j2 : Old w.heap.size Y := ⟨by omega⟩
        have j5 : Old b5 Y := ⟨ly5⟩
        obtain ⟨x0, hx0⟩ : ∃ x0, (goS rows ++ [(⟨(k : Int) + 1, 7, 7, []⟩ : Gm)])[0]? = some x0 := ⟨_, List.getElem?_eq_getElem (by simp)⟩
        have htake := fun W h => take_good (w.heap.size + 1 + 1 + 1) 0 ⟨50, (k : Int) + 1, goS rows ++ [⟨(k : Int) + 1, 7, 7, []⟩]⟩ F2 W h x0 hx0
        clear hx0
        go_wp2_with fail
        refine (htake _ hB2).mono ?_
        rintro e Z ⟨A9, c9, rfl, _, m, F3, e3, hB3, hF3, _⟩
        have hCYZ : Chg F2 Y Z := by rw [e3]; exact m.h
        rw [← e3] at hB3
        have hxZ := hxY.chg' hCYZ hfr2
        have hfr3 : Fr w b5 F3 := fun q hq => hfr2 q (hF3 q hq)
        have hszY : X.heap.size ≤ Y.heap.size := hCXY.size
        have hglZ : GL Z (wr.heap.size + 1) gs vs (goS rows) := HGY.out.chg hCYZ fun q _ hq e => by have := hapart q e; have := hrowlt q hq; omega
        have hbxZ : Z.heap[wr.heap.size]? = some (.cells #[gs] 49 (0, 0)) := (hCYZ.block _ (by omega) fun e => by have := hapart _ e; omega).trans HBY.out
        have hap3 : ∀ q, F3 q → q < wr.heap.size ∨ X.heap.size ≤ q := fun q hq => hapart q (hF3 q hq)
        have hB3' : ∃ B3, IsBag Z (w.heap.size + 1 + 1 + 1) B3 F3 := ⟨_, hB3⟩
        have hszZ : Y.heap.size ≤ Z.heap.size := hCYZ.size
        have HGZ := Lib.hid hglZ
        have HBZ := Lib.hid hbxZ
        clear e3 m htake hB2 hxY hglZ hbxZ hF3 hapart hfr2 hB3 HGY HBY HGL HBX y2 y3 y4 y5 fy4 ly5 j2 j5
        obtain ⟨y2, y3, y4, y5, fy4, ly5⟩ := hxZ.cells
        have j2 : Old w.heap.size Z := ⟨by omega⟩
        have j5 : Old b5 Z := ⟨ly5⟩
        go_wp2_with fail
        refine wp_loop_rounds 3 ?_
        rw [rounds_succ]
        go_wp2_with fail
        have hF3lt : ∀ q, F3 q → q < Z.heap.size := fun q hq => by obtain ⟨B3, hB3⟩ := hB3'; exact hB3.lt hq
        have hexZ : ∀ q, wr.heap.size ≤ q → q < X.heap.size → Z.heap[q]? = Z.heap[q]? := fun _ _ _ => rfl
        have hVle : X.heap.size ≤ Z.heap.size := by omega
        have hFle : Z.heap.size ≤ Z.heap.size := Nat.le_refl _
        obtain ⟨Z1, hZ1⟩ : ∃ Z1, Z1 = Z.alloc (.cells #[i64 0] 3) := ⟨_, rfl⟩
        rw [← hZ1]
        have hCZ1 : Chg Noth Z Z1 := by rw [hZ1]; repeat (with_reducible first | exact Chg.refl _ _ | refine chg_m ?_ _ | refine chg_g ?_ _ | refine chg_alloc ?_ _ | refine chg_drew ?_ | refine chg_drewN ?_ _ | refine chg_set ?_ _ _ _)
        have hs1 : Z1.heap.size = Z.heap.size + 1 := by rw [hZ1]; simp
        obtain ⟨b10, hb10⟩ : ∃ b10, b10 = Z.heap.size := ⟨_, rfl⟩
        rw [← hb10] at hs1 ⊢
        have hF3V : ∀ q, F3 q → q < b10 := fun q hq => by have := hF3lt q hq; omega
        have hI1 : IGo w b5 b10 Z1.heap.size A k c stop F3 [] wr.heap.size X.heap.size Z [] Z1 := by
          obtain ⟨B3, hB3⟩ := hB3'
          exact ⟨Nat.le_refl _, hxZ.grow hCZ1, ⟨B3, hB3.grow hCZ1⟩, by rw [hb10, hZ1]; exact heap_alloc_new _ _, (fun D h => by cases h), fun q h1 h2 => (hCZ1.block q (by omega) (fun e => e)).trans (hexZ q h1 h2)⟩
        have hit1 : It wr.heap.size (wr.heap.size + 1) Z1.heap.size (fun q => F3 q ∨ q = b10) gs vs (goS rows) Z1 := by
          refine ⟨HGZ.out.grow hCZ1, ⟨_, (hCZ1.block _ (by omega) fun e => e).trans HBZ.out⟩, ⟨by omega, fun e => ?_⟩, fun q hq => ⟨?_, fun e => ?_⟩⟩
          · rcases e with e | e
            · have := hap3 _ e; omega
            · omega
          · have := hrowlt q hq; omega
          · have := hrowlt q hq
            rcases e with e | e
            · have := hap3 _ e; omega
            · omega
        have hMl1 : ∀ q, (F3 q ∨ q = b10) → q < Z1.heap.size := fun q hq => by
          rcases hq with h | h
          · have := hF3V q h; omega
          · omega
        have hDs : ∀ D ∈ ([] : List Nat), ¬ F3 D ∧ D ≠ b10 := (fun D h => by cases h)
        have hDlt : ∀ D ∈ ([] : List Nat), D < Z1.heap.size := (fun D h => by cases h)
        have hs1a : b10 < Z1.heap.size := by omega
        have hs1b : Z.heap.size ≤ b10 := by omega
        clear y2 y3 y4 y5 fy4 j2 j5 hB3' hxZ hb10 hZ1 hs1
        refine (wpIn_wide (n := 5)).1 ?_
        refine wpIn_range_act (β := Nat) (F := Fence.wide) (n := 5) rfl (by omega) (gf := 33) (lb := #[.pointer (some ⟨wr.heap.size, 0, none⟩)]) rfl trivial (enters_of Try.func33 (by kernel_rfl) rfl)
          (all1_given 4 (by omega) _ _ _ gs vs (goS rows) HSm.out (by have := HKL.out; omega) Z1 hMl1 hit1) Kpp.trans (fun W l o o' hl ho hc _ => Kpp.put hl ho hc) (fun _ => rfl)
          (fun pre x => gave_own _ _ _ pre x) (came_own _ _ _) (IGo w b5 b10 Z1.heap.size A k c stop F3 [] wr.heap.size X.heap.size Z) (fun cd pre W => cd = .exit 4 ∧ (pre.length : Int) = stop ∧ IGo w b5 b10 Z1.heap.size A k c stop F3 [] wr.heap.size X.heap.size Z pre W) (igo_own _ _ _ _ _ _ _ _ _ _ _ _ _ (by omega) hDlt (by omega)) ?hIx hI1
          (fun x Bx W => Z1.heap.size ≤ Bx ∧ W.heap[Bx]? = some (.cells #[i64 x.g.id, i64 x.g.fr, i64 x.g.to, x.v] 35 (0, 0))) ?hBv (fun x Bx t => (t.setIfInBounds 11 (i64 x.i)).setIfInBounds 12 (.pointer (some ⟨Bx, 0, none⟩))) ?assign ?body ?done ?stop
        case hIx =>
          intro cd pre X Y row hs hg hr
          exact ⟨hs.1, hs.2.1, igo_own _ _ _ _ _ _ _ _ _ _ _ _ _ (by omega) hDlt (by omega) pre X Y row hs.2.2 hg hr⟩
        case hBv =>
          intro x v _ X Y row hs hg hr
          exact ⟨hs.1, blk_kept hs.2 hg fun r e => (hr r e).2⟩
        case assign =>
          intro l pre x W K hi hg hK
          have hsW := hi.sz
          unfold Got.enc
          gi_wp2
          have hc : Chg Noth W (W.alloc (.cells #[i64 x.g.id, i64 x.g.fr, i64 x.g.to, x.v] 35)) := chg_alloc (Chg.refl _ _) _
          have hk := hK W.heap.size _ (keeps_chg hc fun _ e => e.elim) (Kpp.of_chg hc fun _ e => e.elim) (igo_own _ _ _ _ _ _ _ _ _ _ _ _ _ (by omega) hDlt (by omega) pre W _ none hi (chg_grown hc) (fun r e => by cases e)) ⟨hg.1, hg.2.1, own_chg hg.2.2 hc fun _ _ e => e⟩ ⟨hi.sz, heap_alloc_new _ _⟩
          unfold Got.enc at hk
          simp [go_sem] at hk
          exact hk
        case body =>
          rintro l pre x Bx W hl hi hg ⟨hB1, hB2⟩ hlt
          obtain ⟨i', y, D, dc⟩ := x
          obtain ⟨rfl, hL, hrow⟩ := hg
          simp only at hL hrow hB2
          obtain ⟨d, hd, rfl⟩ : ∃ d, rows[pre.length]? = some d ∧ goG pre.length d = y := by rw [goS_get] at hL; simpa using hL
          have hlk : pre.length < k := by have := HKL.out; omega
          have hsW := hi.sz
          obtain ⟨y2, y3, y4, y5, fy4, ly5⟩ := hi.bx.cells
          have hbag := hi.bag
          have hcnt := hi.cnt
          have x10 : W.cell? ⟨b10, 0, none⟩ = some (i64 pre.length) := by rw [cell_of_row _ _ 0 _ _ _ hcnt]; rfl
          have f10 : W.frozen? ⟨b10, 0, none⟩ = false := frozen_of_row _ _ 0 _ _ hcnt
          have l10 : b10 < W.heap.size := by omega
          have z0 : W.cell? ⟨Bx, 0, none⟩ = some (i64 ((pre.length : Int) + 1)) := by rw [cell_of_row _ _ 0 _ _ _ hB2]; rfl
          have z1 : W.cell? ⟨Bx, 1, none⟩ = some (i64 pre.length) := by rw [cell_of_row _ _ 1 _ _ _ hB2]; rfl
          have z2 : W.cell? ⟨Bx, 2, none⟩ = some (i64 (-(pre.length : Int))) := by rw [cell_of_row _ _ 2 _ _ _ hB2]; rfl
          have z3 : W.cell? ⟨Bx, 3, none⟩ = some (.slice D d.length dc) := by rw [cell_of_row _ _ 3 _ _ _ hB2]; rfl
          have hBx : Bx < W.heap.size := (Array.getElem?_eq_some_iff.1 hB2).1
          obtain ⟨b, off, E, ec, e1, hb, hce, hs⟩ := hD.cells _ d hd
          cases e1
          have hcW := hi.bx.chg
          have hce' : W.cell? ⟨b, off + pre.length, none⟩ = some (.slice E d.length ec) := (hcW.cell (p := ⟨b, off + pre.length, none⟩) hb (fun e => e)).trans hce
          have hsD : SL W (.slice D d.length dc) d.length 1 (bv d) := SL.of_own hrow
          have hsE : SL W (.slice E d.length ec) d.length 1 (bv d) := hs.grow hcW
          have hdl : d.length ≤ 1024 := HSm.out (goG pre.length d) (List.mem_of_getElem? hL)
          have ib : Old b W := ⟨Nat.lt_of_lt_of_le hb hcW.size⟩
          have iB : Old Bx W := ⟨hBx⟩
          have j2 : Old w.heap.size W := ⟨by omega⟩
          have j3 : Old (w.heap.size + 1) W := ⟨by omega⟩
          have j5 : Old b5 W := ⟨ly5⟩
          have j10 : Old b10 W := ⟨l10⟩
          have o10 : Out b10 F3 := ⟨fun e => by have := hF3V _ e; omega⟩
          have o3 : Out (w.heap.size + 1) F3 := ⟨fun e => by have := hfr3 _ e; omega⟩
          have c10 : HasCell W b10 0 := ⟨by rw [x10]; rfl⟩
          have n3 : ¬ w.heap.size + 1 = b10 := by omega
          have hsame := fun (g' : Grows W) => sameBytes_any D E dc ec d d.length rfl g'.w (hsD.grow g'.h) (hsE.grow g'.h) (by omega)
          obtain ⟨B3, hB3⟩ := hbag
          have hsp := fun W' h => spoil_anyS (w.heap.size + 1 + 1 + 1) B3 F3 0 1 1 W' h (by omega)
          have hwn : IntKind.i64.wrap (-(pre.length : Int)) = -(pre.length : Int) := by rw [IntKind.wrap_i64]; omega
          have hm41 : pre.length < 41 := by omega
          have hge : decide (k ≤ pre.length) = false := by simp; omega
          have hge' : ¬ k ≤ pre.length := by omega
          obtain ⟨m, hm⟩ : ∃ m, m = pre.length := ⟨_, rfl⟩
          rw [← hm] at x10 z0 z1 z2 hce' hwn hm41 hlk hge hge'
          have HI := Lib.hid hi
          have HM := Lib.hid hm
          clear hi hm hL hd hcnt hB2 hce hs hrow hsD hsE
          have hi := HI.out
          have hstep := fun (W1 : World) (hc : Chg F3 W W1) (B : BagS) (hB : IsBag W1 (w.heap.size + 1 + 1 + 1) B F3) => hi.step (x := ⟨pre.length, ⟨(m : Int) + 1, m, -(m : Int), d⟩, D, dc⟩) (v := (m : Int) + 1) hc hB hfr3 (fun q hq => ⟨by have := hF3V q hq; omega, by have := hF3V q hq; omega⟩) ⟨by omega, by omega, by omega⟩ hDs (by rw [HM.out]) hap3 (by omega)
          have hpl : (((pre ++ [(⟨pre.length, ⟨(m : Int) + 1, m, -(m : Int), d⟩, D, dc⟩ : Got)]).length : Nat) : Int) = (m : Int) + 1 := by rw [List.length_append, HM.out]; simp
          have HPL := Lib.hid hpl
          have HS := Lib.hid hstep
          clear hstep hi hpl
          unfold Got.enc
          simp only [goG]
          rw [show ((pre.length : Nat) : Int) = (m : Int) from by rw [HM.out]]
          by_cases hst : ((m : Int) + 1) = stop
          · have hst' : (((m : Int) + 1) == stop) = true := beq_iff_eq.2 hst
            have HST := Lib.hid hst
            clear hst
            gi_wp2
            go_simp
            refine wpIn_region_grows_round (by kernel_rfl) (by kernel_rfl) (by kernel_rfl) ?_
            repeat (go_big_quiet_step ((first | (go_at_call 14; exact grows_of (hsame _)))))
            refine wpQuiet_nil ?_
            rintro _ ⟨g5, rfl⟩
            gi_wp2_with (refine ⟨trivial, ?_⟩; gi_at_call 15; refine (CallsIn.inRound l (callsIn_wide.2 (hsp _ (hB3.grow g5.h)))).mono ?_; rintro e w' ⟨rfl, ms, rfl, hB4⟩)
            obtain ⟨hZ, hi2⟩ := HS.out ms.w ((g5.h.mono fun _ _ e => e.elim).trans ms.h fun _ _ e => e) _ hB4
            exact ⟨keeps_chg hZ fun q hq => .inl (hMl1 q hq), rfl, HPL.out.trans HST.out, hi2⟩
          · have hst' : (((m : Int) + 1) == stop) = false := beq_eq_false_iff_ne.2 hst
            clear hst
            gi_wp2
            go_simp
            refine wpIn_region_grows_round (by kernel_rfl) (by kernel_rfl) (by kernel_rfl) ?_
            repeat (go_big_quiet_step ((first | (go_at_call 14; exact grows_of (hsame _)))))
            refine wpQuiet_nil ?_
            rintro _ ⟨g5, rfl⟩
            gi_wp2_with (refine ⟨trivial, ?_⟩; gi_at_call 15; refine (CallsIn.inRound l (callsIn_wide.2 (hsp _ (hB3.grow g5.h)))).mono ?_; rintro e w' ⟨rfl, ms, rfl, hB4⟩)
            obtain ⟨hZ, hi2⟩ := HS.out ms.w ((g5.h.mono fun _ _ e => e.elim).trans ms.h fun _ _ e => e) _ hB4
            exact ⟨keeps_chg hZ fun q hq => .inl (hMl1 q hq), Kpp.of_chg hZ fun q hq => .inl hq, hi2⟩
        case' done =>
          rintro D1 pre WD1 hD1 ⟨hmap, _⟩ hi hK
          have hlen : pre.length = k := by have := congrArg List.length hmap; rw [List.length_map] at this; rw [this]; exact HKL.out
          have hq1 : ((pre.length : Int) != (k : Int)) = false := by rw [hlen]; simp
          clear hmap hlen
        case' stop =>
          rintro D1 cd pre WD1 hD1 _ ⟨rfl, hst, hi⟩ hK
          have hq2 : ((pre.length : Int) != stop) = false := by rw [hst]; simp
          clear hst
          refine wpIn_wide.2 ?_
          cases hq1 : ((pre.length : Int) != (k : Int))
        all_goals
          obtain ⟨y2, y3, y4, y5, fy4, ly5⟩ := hi.bx.cells
          have x10 : WD1.cell? ⟨b10, 0, none⟩ = some (i64 pre.length) := by rw [cell_of_row _ _ 0 _ _ _ hi.cnt]; rfl
          have hsWD1 := hi.sz
          have hltD1 := (Array.getElem?_eq_some_iff.1 hK).1
          have HD1 := Lib.hid hi
          have KD1 := Lib.hid hK
          clear hi hK
          go_wp2_with fail
          rw [rounds_succ]
          go_wp2_with fail
          have j2 : Old w.heap.size WD1 := ⟨by omega⟩
          have j5 : Old b5 WD1 := ⟨ly5⟩
          have hxZ := HD1.out.bx
          have hB3' := HD1.out.bag
          have hexW := HD1.out.ex
          have HGW : Hid (GL WD1 (wr.heap.size + 1) gs vs (goS rows)) := Lib.hid (HGZ.out.kept fun q hq => HD1.out.ex q (by have := hrowlt q hq; omega) (hrowlt q hq).2)
          have HBW : Hid (WD1.heap[wr.heap.size]? = some (.cells #[gs] 49 (0, 0))) := Lib.hid ((HD1.out.ex wr.heap.size (Nat.le_refl _) hbxlt).trans HBZ.out)
          have hD1a : Z.heap.size < D1 := by omega
          have hZW : Z.heap.size ≤ WD1.heap.size := by omega
          clear x10 hq1
          obtain ⟨Z1, hZ1⟩ : ∃ Z1, Z1 = WD1.alloc (.cells #[i64 0] 3) := ⟨_, rfl⟩
          rw [← hZ1]
          have hCZ1 : Chg Noth WD1 Z1 := by rw [hZ1]; repeat (with_reducible first | exact Chg.refl _ _ | refine chg_m ?_ _ | refine chg_g ?_ _ | refine chg_alloc ?_ _ | refine chg_drew ?_ | refine chg_drewN ?_ _ | refine chg_set ?_ _ _ _)
          have hs1 : Z1.heap.size = WD1.heap.size + 1 := by rw [hZ1]; simp
          obtain ⟨b10, hb10⟩ : ∃ b10, b10 = WD1.heap.size := ⟨_, rfl⟩
          rw [← hb10] at hs1 ⊢
          have hF3V : ∀ q, F3 q → q < b10 := fun q hq => by have := hF3lt q hq; omega
          have hI1 : IGo w b5 b10 Z1.heap.size A k c stop F3 [D1] wr.heap.size X.heap.size Z [] Z1 := by
            obtain ⟨B3, hB3⟩ := hB3'
            exact ⟨Nat.le_refl _, hxZ.grow hCZ1, ⟨B3, hB3.grow hCZ1⟩, by rw [hb10, hZ1]; exact heap_alloc_new _ _, (fun D h => by cases List.mem_singleton.1 h; exact (hCZ1.block _ hltD1 (fun e => e)).trans KD1.out), fun q h1 h2 => (hCZ1.block q (by omega) (fun e => e)).trans (hexW q h1 h2)⟩
          have hit1 : It wr.heap.size (wr.heap.size + 1) Z1.heap.size (fun q => F3 q ∨ q = b10) gs vs (goS rows) Z1 := by
            refine ⟨HGW.out.grow hCZ1, ⟨_, (hCZ1.block _ (by omega) fun e => e).trans HBW.out⟩, ⟨by omega, fun e => ?_⟩, fun q hq => ⟨?_, fun e => ?_⟩⟩
            · rcases e with e | e
              · have := hap3 _ e; omega
              · omega
            · have := hrowlt q hq; omega
            · have := hrowlt q hq
              rcases e with e | e
              · have := hap3 _ e; omega
              · omega
          have hMl1 : ∀ q, (F3 q ∨ q = b10) → q < Z1.heap.size := fun q hq => by
            rcases hq with h | h
            · have := hF3V q h; omega
            · omega
          have hDs : ∀ D ∈ ([D1] : List Nat), ¬ F3 D ∧ D ≠ b10 := (fun D h => by cases List.mem_singleton.1 h; exact ⟨fun e => by have := hF3lt _ e; omega, by omega⟩)
          have hDlt : ∀ D ∈ ([D1] : List Nat), D < Z1.heap.size := (fun D h => by cases List.mem_singleton.1 h; omega)
          have hs1a : b10 < Z1.heap.size := by omega
          have hs1b : WD1.heap.size ≤ b10 := by omega
          clear y2 y3 y4 y5 fy4 j2 j5 hB3' hxZ hb10 hZ1 hs1
          refine (wpIn_wide (n := 5)).1 ?_
          refine wpIn_range_act (β := Nat) (F := Fence.wide) (n := 5) rfl (by omega) (gf := 33) (lb := #[.pointer (some ⟨wr.heap.size, 0, none⟩)]) rfl trivial (enters_of Try.func33 (by kernel_rfl) rfl)
            (all1_given 4 (by omega) _ _ _ gs vs (goS rows) HSm.out (by have := HKL.out; omega) Z1 hMl1 hit1) Kpp.trans (fun W l o o' hl ho hc _ => Kpp.put hl ho hc) (fun _ => rfl)
            (fun pre x => gave_own _ _ _ pre x) (came_own _ _ _) (IGo w b5 b10 Z1.heap.size A k c stop F3 [D1] wr.heap.size X.heap.size Z) (fun cd pre W => cd = .exit 4 ∧ (pre.length : Int) = stop ∧ IGo w b5 b10 Z1.heap.size A k c stop F3 [D1] wr.heap.size X.heap.size Z pre W) (igo_own _ _ _ _ _ _ _ _ _ _ _ _ _ (by omega) hDlt (by omega)) ?_ hI1
            (fun x Bx W => Z1.heap.size ≤ Bx ∧ W.heap[Bx]? = some (.cells #[i64 x.g.id, i64 x.g.fr, i64 x.g.to, x.v] 35 (0, 0))) ?_ (fun x Bx t => (t.setIfInBounds 11 (i64 x.i)).setIfInBounds 12 (.pointer (some ⟨Bx, 0, none⟩))) ?_ ?_ ?_ ?_
          ·
            intro cd pre X Y row hs hg hr
            exact ⟨hs.1, hs.2.1, igo_own _ _ _ _ _ _ _ _ _ _ _ _ _ (by omega) hDlt (by omega) pre X Y row hs.2.2 hg hr⟩
          ·
            intro x v _ X Y row hs hg hr
            exact ⟨hs.1, blk_kept hs.2 hg fun r e => (hr r e).2⟩
          ·
            intro l pre x W K hi hg hK
            have hsW := hi.sz
            unfold Got.enc
            gi_wp2
            have hc : Chg Noth W (W.alloc (.cells #[i64 x.g.id, i64 x.g.fr, i64 x.g.to, x.v] 35)) := chg_alloc (Chg.refl _ _) _
            have hk := hK W.heap.size _ (keeps_chg hc fun _ e => e.elim) (Kpp.of_chg hc fun _ e => e.elim) (igo_own _ _ _ _ _ _ _ _ _ _ _ _ _ (by omega) hDlt (by omega) pre W _ none hi (chg_grown hc) (fun r e => by cases e)) ⟨hg.1, hg.2.1, own_chg hg.2.2 hc fun _ _ e => e⟩ ⟨hi.sz, heap_alloc_new _ _⟩
            unfold Got.enc at hk
            simp [go_sem] at hk
            exact hk
          ·
            rintro l pre x Bx W hl hi hg ⟨hB1, hB2⟩ hlt
            obtain ⟨i', y, D, dc⟩ := x
            obtain ⟨rfl, hL, hrow⟩ := hg
            simp only at hL hrow hB2
            obtain ⟨d, hd, rfl⟩ : ∃ d, rows[pre.length]? = some d ∧ goG pre.length d = y := by rw [goS_get] at hL; simpa using hL
            have hlk : pre.length < k := by have := HKL.out; omega
            have hsW := hi.sz
            obtain ⟨y2, y3, y4, y5, fy4, ly5⟩ := hi.bx.cells
            have hbag := hi.bag
            have hcnt := hi.cnt
            have x10 : W.cell? ⟨b10, 0, none⟩ = some (i64 pre.length) := by rw [cell_of_row _ _ 0 _ _ _ hcnt]; rfl
            have f10 : W.frozen? ⟨b10, 0, none⟩ = false := frozen_of_row _ _ 0 _ _ hcnt
            have l10 : b10 < W.heap.size := by omega
            have z0 : W.cell? ⟨Bx, 0, none⟩ = some (i64 ((pre.length : Int) + 1)) := by rw [cell_of_row _ _ 0 _ _ _ hB2]; rfl
            have z1 : W.cell? ⟨Bx, 1, none⟩ = some (i64 pre.length) := by rw [cell_of_row _ _ 1 _ _ _ hB2]; rfl
            have z2 : W.cell? ⟨Bx, 2, none⟩ = some (i64 (-(pre.length : Int))) := by rw [cell_of_row _ _ 2 _ _ _ hB2]; rfl
            have z3 : W.cell? ⟨Bx, 3, none⟩ = some (.slice D d.length dc) := by rw [cell_of_row _ _ 3 _ _ _ hB2]; rfl
            have hBx : Bx < W.heap.size := (Array.getElem?_eq_some_iff.1 hB2).1
            obtain ⟨b, off, E, ec, e1, hb, hce, hs⟩ := hD.cells _ d hd
            cases e1
            have hcW := hi.bx.chg
            have hce' : W.cell? ⟨b, off + pre.length, none⟩ = some (.slice E d.length ec) := (hcW.cell (p := ⟨b, off + pre.length, none⟩) hb (fun e => e)).trans hce
            have hsD : SL W (.slice D d.length dc) d.length 1 (bv d) := SL.of_own hrow
            have hsE : SL W (.slice E d.length ec) d.length 1 (bv d) := hs.grow hcW
            have hdl : d.length ≤ 1024 := HSm.out (goG pre.length d) (List.mem_of_getElem? hL)
            have ib : Old b W := ⟨Nat.lt_of_lt_of_le hb hcW.size⟩
            have iB : Old Bx W := ⟨hBx⟩
            have j2 : Old w.heap.size W := ⟨by omega⟩
            have j3 : Old (w.heap.size + 1) W := ⟨by omega⟩
            have j5 : Old b5 W := ⟨ly5⟩
            have j10 : Old b10 W := ⟨l10⟩
            have o10 : Out b10 F3 := ⟨fun e => by have := hF3V _ e; omega⟩
            have o3 : Out (w.heap.size + 1) F3 := ⟨fun e => by have := hfr3 _ e; omega⟩
            have c10 : HasCell W b10 0 := ⟨by rw [x10]; rfl⟩
            have n3 : ¬ w.heap.size + 1 = b10 := by omega
            have hsame := fun (g' : Grows W) => sameBytes_any D E dc ec d d.length rfl g'.w (hsD.grow g'.h) (hsE.grow g'.h) (by omega)
            obtain ⟨B3, hB3⟩ := hbag
            have hsp := fun W' h => spoil_anyS (w.heap.size + 1 + 1 + 1) B3 F3 0 1 1 W' h (by omega)
            have hwn : IntKind.i64.wrap (-(pre.length : Int)) = -(pre.length : Int) := by rw [IntKind.wrap_i64]; omega
            have hm41 : pre.length < 41 := by omega
            have hge : decide (k ≤ pre.length) = false := by simp; omega
            have hge' : ¬ k ≤ pre.length := by omega
            obtain ⟨m, hm⟩ : ∃ m, m = pre.length := ⟨_, rfl⟩
            rw [← hm] at x10 z0 z1 z2 hce' hwn hm41 hlk hge hge'
            have HI := Lib.hid hi
            have HM := Lib.hid hm
            clear hi hm hL hd hcnt hB2 hce hs hrow hsD hsE
            have hi := HI.out
            have hstep := fun (W1 : World) (hc : Chg F3 W W1) (B : BagS) (hB : IsBag W1 (w.heap.size + 1 + 1 + 1) B F3) => hi.step (x := ⟨pre.length, ⟨(m : Int) + 1, m, -(m : Int), d⟩, D, dc⟩) (v := (m : Int) + 1) hc hB hfr3 (fun q hq => ⟨by have := hF3V q hq; omega, by have := hF3V q hq; omega⟩) ⟨by omega, by omega, by omega⟩ hDs (by rw [HM.out]) hap3 (by omega)
            have hpl : (((pre ++ [(⟨pre.length, ⟨(m : Int) + 1, m, -(m : Int), d⟩, D, dc⟩ : Got)]).length : Nat) : Int) = (m : Int) + 1 := by rw [List.length_append, HM.out]; simp
            have HPL := Lib.hid hpl
            have HS := Lib.hid hstep
            clear hstep hi hpl
            unfold Got.enc
            simp only [goG]
            rw [show ((pre.length : Nat) : Int) = (m : Int) from by rw [HM.out]]
            by_cases hst : ((m : Int) + 1) = stop
            · have hst' : (((m : Int) + 1) == stop) = true := beq_iff_eq.2 hst
              have HST := Lib.hid hst
              clear hst
              gi_wp2
              go_simp
              refine wpIn_region_grows_round (by kernel_rfl) (by kernel_rfl) (by kernel_rfl) ?_
              repeat (go_big_quiet_step ((first | (go_at_call 14; exact grows_of (hsame _)))))
              refine wpQuiet_nil ?_
              rintro _ ⟨g5, rfl⟩
              gi_wp2_with (refine ⟨trivial, ?_⟩; gi_at_call 15; refine (CallsIn.inRound l (callsIn_wide.2 (hsp _ (hB3.grow g5.h)))).mono ?_; rintro e w' ⟨rfl, ms, rfl, hB4⟩)
              obtain ⟨hZ, hi2⟩ := HS.out ms.w ((g5.h.mono fun _ _ e => e.elim).trans ms.h fun _ _ e => e) _ hB4
              exact ⟨keeps_chg hZ fun q hq => .inl (hMl1 q hq), rfl, HPL.out.trans HST.out, hi2⟩
            · have hst' : (((m : Int) + 1) == stop) = false := beq_eq_false_iff_ne.2 hst
              clear hst
              gi_wp2
              go_simp
              refine wpIn_region_grows_round (by kernel_rfl) (by kernel_rfl) (by kernel_rfl) ?_
              repeat (go_big_quiet_step ((first | (go_at_call 14; exact grows_of (hsame _)))))
              refine wpQuiet_nil ?_
              rintro _ ⟨g5, rfl⟩
              gi_wp2_with (refine ⟨trivial, ?_⟩; gi_at_call 15; refine (CallsIn.inRound l (callsIn_wide.2 (hsp _ (hB3.grow g5.h)))).mono ?_; rintro e w' ⟨rfl, ms, rfl, hB4⟩)
              obtain ⟨hZ, hi2⟩ := HS.out ms.w ((g5.h.mono fun _ _ e => e.elim).trans ms.h fun _ _ e => e) _ hB4
              exact ⟨keeps_chg hZ fun q hq => .inl (hMl1 q hq), Kpp.of_chg hZ fun q hq => .inl hq, hi2⟩
          rintro D2 pre WD2 hD2 ⟨hmap, _⟩ hi hK
          have hlen : pre.length = k := by have := congrArg List.length hmap; rw [List.length_map] at this; rw [this]; exact HKL.out
          have hq1 : ((pre.length : Int) != (k : Int)) = false := by rw [hlen]; simp
          clear hmap hlen
          rotate_left
          rintro D2 cd pre WD2 hD2 _ ⟨rfl, hst, hi⟩ hK
          have hq2 : ((pre.length : Int) != stop) = false := by rw [hst]; simp
          clear hst
          refine wpIn_wide.2 ?_
          cases hq1 : ((pre.length : Int) != (k : Int))
          all_goals
            obtain ⟨y2, y3, y4, y5, fy4, ly5⟩ := hi.bx.cells
            have x10 : WD2.cell? ⟨b10, 0, none⟩ = some (i64 pre.length) := by rw [cell_of_row _ _ 0 _ _ _ hi.cnt]; rfl
            have hsWD2 := hi.sz
            have hltD2 := (Array.getElem?_eq_some_iff.1 hK).1
            have HD2 := Lib.hid hi
            have KD2 := Lib.hid hK
            clear hi hK
            go_wp2_with fail
            rw [rounds_succ]
            have j4 : Old (w.heap.size + 1 + 1) WD2 := ⟨by omega⟩
            have c4 : HasCell WD2 (w.heap.size + 1 + 1) 0 := ⟨by rw [y4]; rfl⟩
            have K1 : Hid (WD2.heap[D1]? = some (.deferred (some []))) := Lib.hid (HD2.out.ds D1 (by simp))
            go_wp2_with (go_at_call 9; refine (alive_any _).mono ?_; rintro e w' ⟨rfl, g9, rfl⟩)
            obtain ⟨W3, hW3⟩ : ∃ W3, W3 = g9.w.setCell ⟨w.heap.size + 1 + 1, 0, none⟩ (.bool true) := ⟨_, rfl⟩
            rw [← hW3]
            have iM : May (w.heap.size + 1 + 1) (fun q => q = w.heap.size + 1 + 1) WD2 := ⟨.inl rfl⟩
            have hC3 : Chg (fun q => q = w.heap.size + 1 + 1) WD2 W3 := by rw [hW3]; exact chg_set (chg_g (Chg.refl _ _) g9) _ _ _
            have e4 : W3.heap[w.heap.size + 1 + 1]? = some (.cells #[.bool true] 4 (0, 0)) := by rw [hW3]; exact heap_setCell_same _ _ 0 _ _ _ ((g9.h.block _ (by omega) (fun e => e)).trans HD2.out.bx.b4)
            have k2 : W3.heap[D2]? = some (.deferred (some [])) := (hC3.block _ hltD2 (by omega)).trans KD2.out
            have k1 : W3.heap[D1]? = some (.deferred (some [])) := (hC3.block _ (by omega) (by omega)).trans K1.out
            have g1' := grownBy_putObj' W3 D2 (.deferred none)
            have k1' : (W3.putObj D2 (.deferred none)).heap[D1]? = some (.deferred (some [])) := (g1'.block D1 (Array.getElem?_eq_some_iff.1 k1).1 (fun e => by cases e; omega)).trans k1
            have e4' := blk_kept e4 g1' (fun r e => by cases e; exact ⟨_, k2, rfl⟩)
            have g2' := grownBy_putObj' (W3.putObj D2 (.deferred none)) D1 (.deferred none)
            have e4'' := blk_kept e4' g2' (fun r e => by cases e; exact ⟨_, k1', rfl⟩)
            refine ⟨by simp, .inl ⟨_, _, rfl, run_takeDeferred k2, by simp, .inl ⟨_, _, rfl, run_takeDeferred k1', ?_⟩⟩⟩
            have z4 : ((W3.putObj D2 (.deferred none)).putObj D1 (.deferred none)).cell? ⟨w.heap.size + 1 + 1, 0, none⟩ = some (.bool true) := by rw [cell_of_row _ _ 0 _ _ _ e4'']; rfl
            have hCE : Chg Noth w ((W3.putObj D2 (.deferred none)).putObj D1 (.deferred none)) := by
              refine ((HD2.out.bx.chg.trans hC3 (fun q hq e => by omega)).trans (Chg.of_grown g1') (fun q hq e => ?_)).trans (Chg.of_grown g2') (fun q hq e => ?_)
              · cases e; omega
              · cases e; omega
            exact ⟨.bool true, by simp [results, Try.results3, go_sem, z4], rfl, muts_ex hCE⟩
end Go.Proofs.Yteemkceceaabkaa
