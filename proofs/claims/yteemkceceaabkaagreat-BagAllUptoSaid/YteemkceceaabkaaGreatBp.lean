/- play: the bags made, the script gone through. -/
import Derived.Test.YteemkceceaabkaaGreatBt
import Derived.Test.YteemkceceaabkaaGreatBu
import Derived.Test.YteemkceceaabkaaGreatBv
import Derived.LoopTactic
namespace Go.Proofs.YteemkceceaabkaaGreat
open Go.RowKit Go.Ear
set_option maxHeartbeats 1000000
set_option maxRecDepth 100000

/-- A step of a script. -/
abbrev opval (o : OpS) (D : Option Addr) (n dc : Nat) : Value := .agg #[i64 o.kind, i64 o.who, i64 o.i, i64 o.j, i64 o.k, .slice D n dc]
theorem step_any (lb off : Nat) (cs : Array Value) (p pb : Nat) (B : BagS) (FP FR C F : Nat → Prop) (w : World) (h : BothAt w lb off cs p pb B FP FR C F) (o : OpS) (D : Option Addr) (n dc : Nat) (hn : n = o.data.length)
    (hD : SL w (.slice D n dc) n 1 (bv o.data)) (hDn : 0 < n → ∀ x, (Value.slice D n dc).ownBlock = some x → x ≠ lb ∧ ¬ FP x ∧ ¬ FR x) (hle : n ≤ 100000) (hlast : B.last < 1000000000000) (hj : -9223372036854775808 ≤ o.j ∧ o.j ≤ 9223372036854775807) :
    Calls Tryz.prog 21 #[.pointer (some ⟨lb, off, none⟩), opval o D n dc] w (StepTo w lb off cs p pb B FP FR C F) := by
  obtain ⟨kind, who, i, j, k, data⟩ := o
  dsimp only [opval] at *
  by_cases h1 : kind = 1
  · subst h1; exact step_send lb off cs p pb B FP FR C F w h who i j k D n dc data hn hD hDn hle hlast
  by_cases h2 : kind = 2
  · subst h2; exact step_at lb off cs p pb B FP FR C F w h who i j k D n dc
  by_cases h3 : kind = 3
  · subst h3; exact step_take lb off cs p pb B FP FR C F w h who i j k D n dc
  by_cases h4 : kind = 4
  · subst h4; exact step_double lb off cs p pb B FP FR C F w h who i j k D n dc hlast
  by_cases h5 : kind = 5
  · subst h5; exact step_move lb off cs p pb B FP FR C F w h who i j k D n dc
  by_cases h6 : kind = 6
  · subst h6; exact step_spoil lb off cs p pb B FP FR C F w h who i j k D n dc hj
  exact step_look lb off cs p pb B FP FR C F w h kind who i j k D n dc (by omega)

theorem new_book {w : World} {p : Nat} (h : w.heap[p]? = some (.cells (Array.replicate 24 (.slice none 0 0)) 53 (0, 0))) : BookIs KT 53 w p (fun x => x = p) (fun x => x = p) := by
  have e : ∀ x, kcnt x ⟨.slice none 0 0, .slice none 0 0, []⟩ = 0 := fun x => by simp [kcnt, own1, Value.ownBlock]
  refine ⟨List.replicate 12 ⟨.slice none 0 0, .slice none 0 0, []⟩, ⟨by rw [h]; rfl, fun i t k _ hk => ?_, by rfl, fun x => ?_⟩, fun x => ?_, fun x => ?_⟩
  · obtain rfl := List.eq_of_mem_replicate (List.mem_of_getElem? hk)
    exact ⟨by simp, World.ownsRow_nil _ _ _ _, World.ownsRow_nil _ _ _ _, fun it hit => by simp at hit⟩
  · simp only [bcnt, List.map_replicate, e]
    simp
    split <;> omega
  · simp only [ccnt, own1, Value.ownBlock]
    simp
    split <;> simp [*]
  · simp only [bcnt, List.map_replicate, e]
    simp
    split <;> simp [*]

/-- The room that a bag has. -/
def roomOf (r : Int) : Int := if r < 0 ∨ 65536 < r then 0 else r
theorem roomOf_bounds (r : Int) : 0 ≤ roomOf r ∧ roomOf r ≤ 65536 := by
  unfold roomOf
  split <;> omega
/-- A side of the law's list, where the world, the list's cells and the book have turned elsewhere. -/
theorem BothAt.other {w w' : World} {lb off : Nat} {cs cs' : Array Value} {p pb : Nat} {B : BagS} {FP FR C F G C' F' : Nat → Prop} (h : BothAt w lb off cs p pb B FP FR C F) (hc : Chg G w w') (hP : ∀ x, FP x → ¬ G x) (hR : ∀ x, FR x → ¬ G x)
    (hb : w'.heap[lb]? = some (.cells cs' 63 (0, 0))) (hcs : ∀ i, off ≤ i → i < off + 5 → cs'[i]? = cs[i]?) (hB : BookIs KT 53 w' p C' F') (hF : ∀ x, F' x → (¬ FP x ∧ ¬ FR x ∧ x ≠ lb)) : BothAt w' lb off cs' p pb B FP FR C' F' := by
  refine ⟨h.bag.chg hc hP, ?_, hB, by rw [hcs _ (Nat.le_refl _) (by omega)]; exact h.cp, by rw [hcs _ (by omega) (by omega)]; exact h.cb, h.s1, fun x hx hf => (hF x hf).1 hx, fun x hx hf => (hF x hf).2.1 hx, h.s4.1, fun hf => (hF lb hf).2.2 rfl⟩
  obtain ⟨gs, vs, hr, hFR⟩ := h.ref
  refine ⟨gs, vs, ⟨hb, hr.ne, by rw [hcs _ (by omega) (by omega)]; exact hr.c0, by rw [hcs _ (by omega) (by omega)]; exact hr.c1, by rw [hcs _ (by omega) (by omega)]; exact hr.c2, own_chg hr.own hc fun k hk => hR k ((hFR k).2 (.inl hk)), hr.len, fun i g v hg hv => own_chg (hr.data i g v hg hv) hc fun k hk => hR k ((hFR k).2 (.inr ⟨v, List.mem_of_getElem? hv, hk⟩)), hr.fits, hr.lasts, hr.small⟩, hFR⟩

/-- The first k bags are made. -/
def Made (w : World) (lb p rb : Nat) (r : Nat → Int) (k : Nat) (wr : World) : Prop :=
  Chg Noth w wr ∧ ∃ (cs rs : Array Value) (pbs : Nat → Nat), wr.heap[lb]? = some (.cells cs 63 (0, 0)) ∧ cs.size = 10 ∧ wr.heap[rb]? = some (.cells rs 22 (0, 0)) ∧ rs.size = 2 ∧ (∀ j, k ≤ j → j < 2 → rs[j]? = some (i64 (r j))) ∧
    BookIs KT 53 wr p (fun x => x = p) (fun x => x = p) ∧ (∀ j, j < k → BothAt wr lb (j * 5) cs p (pbs j) ⟨roomOf (r j), 0, []⟩ (fun x => x = pbs j) (fun _ => False) (fun x => x = p) (fun x => x = p)) ∧ (∀ j, j < k → w.heap.size ≤ pbs j) ∧ ∀ i j, i < j → j < k → pbs i ≠ pbs j

theorem made_next {w wr w1 W : World} {lb p rb pb k : Nat} {r : Nat → Int} (h : Made w lb p rb r k wr) (hk : k < 2) (hlb : w.heap.size ≤ lb) (hrb : w.heap.size ≤ rb) (hp : p ≠ lb ∧ p ≠ rb) (hc1 : Chg Noth wr w1) (hbag : IsBag w1 pb ⟨roomOf (r k), 0, []⟩ (fun x => x = pb)) (hpb : wr.heap.size ≤ pb)
    (hcW : Chg (fun x => x = lb ∨ x = rb) w1 W) {cs' rs' : Array Value} (hbW : W.heap[lb]? = some (.cells cs' 63 (0, 0))) (hrW : W.heap[rb]? = some (.cells rs' 22 (0, 0))) (hr2 : rs'.size = 2)
    (hsame : ∀ cs, wr.heap[lb]? = some (.cells cs 63 (0, 0)) → cs'.size = cs.size ∧ ∀ i, ¬ (k * 5 ≤ i ∧ i < k * 5 + 5) → cs'[i]? = cs[i]?)
    (hrs : ∀ rs : Array Value, wr.heap[rb]? = some (.cells rs 22 (0, 0)) → ∀ j, k + 1 ≤ j → rs'[j]? = rs[j]?)
    (h0 : cs'[k * 5]? = some (.pointer (some ⟨pb, 0, none⟩))) (h1 : cs'[k * 5 + 1]? = some (.slice none 0 0)) (h2 : cs'[k * 5 + 2]? = some (i64 0)) (h3 : cs'[k * 5 + 3]? = some (i64 (roomOf (r k)))) (h4 : cs'[k * 5 + 4]? = some (.pointer (some ⟨p, 0, none⟩))) :
    Made w lb p rb r (k + 1) W := by
  obtain ⟨hc, cs, rs, pbs, e1, e2, e3, e4, e5, e6, e7, e8, e9⟩ := h
  obtain ⟨s1, s2⟩ := hsame cs e1
  have hpl := e6.lt p rfl
  have hll := (Array.getElem?_eq_some_iff.1 e1).1
  have hrl := (Array.getElem?_eq_some_iff.1 e3).1
  have hs0 := hc.size
  have hcw : Chg (fun x => x = lb ∨ x = rb) wr W := (hc1.mono fun _ _ e => e.elim).trans hcW fun _ _ e => e
  have hbk : BookIs KT 53 W p (fun x => x = p) (fun x => x = p) := e6.chg hcw fun x hx hx' => by
    subst hx'
    rcases hx with hx | hx
    · exact hp.1 hx
    · exact hp.2 hx
  have hbl : ∀ j, j < k → pbs j < wr.heap.size := fun j hj => (e7 j hj).bag.lt rfl
  have hnb : ∀ j, j < k → pbs j ≠ lb ∧ pbs j ≠ p := fun j hj => ⟨fun e => (e7 j hj).s4.1 e.symm, fun e => (e7 j hj).s2 _ rfl e⟩
  have hnr : ∀ j, j < k → pbs j ≠ rb := fun j hj e => by
    obtain ⟨gs, vs, hr, _⟩ := (e7 j hj).bag
    have hb := hr.blk
    rw [e, e3] at hb
    cases hb
  have hob : BothAt W lb (k * 5) cs' p pb ⟨roomOf (r k), 0, []⟩ (fun x => x = pb) (fun _ => False) (fun x => x = p) (fun x => x = p) := by
    obtain ⟨b1, b2⟩ := roomOf_bounds (r k)
    refine ⟨hbag.chg hcW fun x hx e => by omega, ⟨.slice none 0 0, [], ⟨hbW, by decide, h1, h2, h3, World.ownsRow_nil _ _ _ _, rfl, fun i g v hg => by simp at hg, ⟨by simpa using b1, b2⟩, ⟨by simp, by simp⟩, fun g hg => by simp at hg⟩, fun x => ?_⟩, hbk, h0, h4, fun _ _ e => e, fun x hx hx' => by omega, fun _ e _ => e, by omega, fun e => hp.1 e.symm⟩
    simp [footR, Value.ownBlock]
  refine ⟨hc.trans hcw fun x hx e => by omega, cs', rs', fun j => if j = k then pb else pbs j, hbW, by omega, hrW, hr2, fun j hj hj2 => by rw [hrs rs e3 j hj]; exact e5 j (by omega) hj2, hbk, fun j hj => ?_, fun j hj => ?_, fun i j hij hj => ?_⟩
  · by_cases hjk : j = k
    · subst hjk
      simpa using hob
    · simp only [if_neg hjk]
      have hj' : j < k := by omega
      refine (e7 j hj').other hcw (fun x hx e => ?_) (fun _ e => e.elim) hbW (fun i hi1 hi2 => s2 i (by omega)) hbk fun x hx => ⟨fun e => (hnb j hj').2 (by omega), fun e => e, fun e => hp.1 (by omega)⟩
      rcases e with e | e
      · exact (hnb j hj').1 (by omega)
      · exact hnr j hj' (by omega)
  · by_cases hjk : j = k
    · simp only [if_pos hjk]; omega
    · simp only [if_neg hjk]; exact e8 j (by omega)
  · by_cases hjk : j = k
    · show (if i = k then pb else pbs i) ≠ (if j = k then pb else pbs j)
      rw [if_pos hjk, if_neg (by omega)]
      have := hbl i (by omega)
      omega
    · show (if i = k then pb else pbs i) ≠ (if j = k then pb else pbs j)
      rw [if_neg hjk, if_neg (by omega)]
      exact e9 i j hij (by omega)

theorem zero_bag (w : World) : IsBag (w.alloc (.cells #[i64 0, i64 0, .slice none 0 0] 67)) w.heap.size ⟨0, 0, []⟩ (fun x => x = w.heap.size) :=
  ⟨.slice none 0 0, [], ⟨heap_alloc_new _ _, World.ownsRow_nil _ _ _ _, rfl, fun _ _ _ h => by simp at h, fun _ _ _ _ _ h => by simp at h, ⟨by simp, by simp⟩, ⟨by simp, by simp⟩, fun _ h => by simp at h⟩, fun k => by simp [foot, Value.ownBlock]⟩
theorem made_end {w wr w1 w2 : World} {lb p rb pb k : Nat} {r : Nat → Int} (h : Made w lb p rb r k wr) (hk : k < 2) (hlb : w.heap.size ≤ lb) (hrb : w.heap.size ≤ rb) (hp : p ≠ lb ∧ p ≠ rb) (hc1 : Chg Noth wr w1) (hbag : IsBag w1 pb ⟨roomOf (r k), 0, []⟩ (fun x => x = pb)) (hpb : wr.heap.size ≤ pb)
    (hc2 : Chg (fun x => x = rb) w1 w2) {rs' : Array Value} (hr : w2.heap[rb]? = some (.cells rs' 22 (0, 0))) (hr2 : rs'.size = 2)
    (hrs : ∀ rs : Array Value, wr.heap[rb]? = some (.cells rs 22 (0, 0)) → ∀ j, k + 1 ≤ j → rs'[j]? = rs[j]?) :
    Made w lb p rb r (k + 1) (((((w2.setCell ⟨lb, k * 5, none⟩ (.pointer (some ⟨pb, 0, none⟩))).setCell ⟨lb, k * 5 + 1, none⟩ (.slice none 0 0)).setCell ⟨lb, k * 5 + 2, none⟩ (i64 0)).setCell ⟨lb, k * 5 + 3, none⟩ (i64 (roomOf (r k)))).setCell ⟨lb, k * 5 + 4, none⟩ (.pointer (some ⟨p, 0, none⟩))) := by
  have hM := h
  obtain ⟨hc, cs, rs, pbs, e1, e2, e3, -⟩ := h
  have hne : lb ≠ rb := fun e => by
    rw [e, e3] at e1
    cases e1
  have hll := (Array.getElem?_eq_some_iff.1 e1).1
  have b2 : w2.heap[lb]? = some (.cells cs 63 (0, 0)) := ((hc2.block lb (Nat.lt_of_lt_of_le hll hc1.size) hne).trans (hc1.block lb hll fun e => e)).trans e1
  have bW := heap_setCell_same _ lb (k * 5 + 4) _ _ (.pointer (some ⟨p, 0, none⟩)) (heap_setCell_same _ lb (k * 5 + 3) _ _ (i64 (roomOf (r k))) (heap_setCell_same _ lb (k * 5 + 2) _ _ (i64 0) (heap_setCell_same _ lb (k * 5 + 1) _ _ (.slice none 0 0) (heap_setCell_same w2 lb (k * 5) _ _ (.pointer (some ⟨pb, 0, none⟩)) b2))))
  have mm : May lb (fun x => x = lb ∨ x = rb) w1 := ⟨.inl (.inl rfl)⟩
  have cW : Chg (fun x => x = lb ∨ x = rb) w1 (((((w2.setCell ⟨lb, k * 5, none⟩ (.pointer (some ⟨pb, 0, none⟩))).setCell ⟨lb, k * 5 + 1, none⟩ (.slice none 0 0)).setCell ⟨lb, k * 5 + 2, none⟩ (i64 0)).setCell ⟨lb, k * 5 + 3, none⟩ (i64 (roomOf (r k)))).setCell ⟨lb, k * 5 + 4, none⟩ (.pointer (some ⟨p, 0, none⟩))) :=
    chg_set (chg_set (chg_set (chg_set (chg_set (hc2.mono fun _ _ e => .inr e) _ _ _) _ _ _) _ _ _) _ _ _) _ _ _
  refine made_next hM hk hlb hrb hp hc1 hbag hpb cW bW ?_ hr2 (fun cs' e => ?_) hrs ?_ ?_ ?_ ?_ ?_
  · rw [heap_set_far _ _ _ _ hne.symm, heap_set_far _ _ _ _ hne.symm, heap_set_far _ _ _ _ hne.symm, heap_set_far _ _ _ _ hne.symm, heap_set_far _ _ _ _ hne.symm]
    exact hr
  · rw [e1] at e
    cases e
    refine ⟨by simp, fun i hi => ?_⟩
    rw [Array.getElem?_setIfInBounds_ne (by omega), Array.getElem?_setIfInBounds_ne (by omega), Array.getElem?_setIfInBounds_ne (by omega), Array.getElem?_setIfInBounds_ne (by omega), Array.getElem?_setIfInBounds_ne (by omega)]
  · rw [Array.getElem?_setIfInBounds_ne (by omega), Array.getElem?_setIfInBounds_ne (by omega), Array.getElem?_setIfInBounds_ne (by omega), Array.getElem?_setIfInBounds_ne (by omega), Array.getElem?_setIfInBounds_self_of_lt (by omega)]
  · rw [Array.getElem?_setIfInBounds_ne (by omega), Array.getElem?_setIfInBounds_ne (by omega), Array.getElem?_setIfInBounds_ne (by omega), Array.getElem?_setIfInBounds_self_of_lt (by simp; omega)]
  · rw [Array.getElem?_setIfInBounds_ne (by omega), Array.getElem?_setIfInBounds_ne (by omega), Array.getElem?_setIfInBounds_self_of_lt (by simp; omega)]
  · rw [Array.getElem?_setIfInBounds_ne (by omega), Array.getElem?_setIfInBounds_self_of_lt (by simp; omega)]
  · rw [Array.getElem?_setIfInBounds_self_of_lt (by simp; omega)]

/-- Two bags, and the document's, and the book; q steps were gone. -/
def Duo (w : World) (lb p : Nat) (q : Nat) (W : World) : Prop :=
  ∃ (cs : Array Value) (pa pb : Nat) (Ba Bb : BagS) (FPa FRa FPb FRb C F : Nat → Prop), Chg Noth w W ∧ BothAt W lb 0 cs p pa Ba FPa FRa C F ∧ BothAt W lb 5 cs p pb Bb FPb FRb C F ∧ (∀ x, FPa x ∨ FRa x → ¬ (FPb x ∨ FRb x)) ∧
    (∀ x, FPa x ∨ FRa x ∨ FPb x ∨ FRb x ∨ F x → w.heap.size ≤ x) ∧ w.heap.size ≤ lb ∧ Ba.last ≤ q ∧ Bb.last ≤ q

theorem duo_init {w W : World} {lb p rb : Nat} {r : Nat → Int} (h : Made w lb p rb r 2 W) (hlb : w.heap.size ≤ lb) (hp : w.heap.size ≤ p) : Duo w lb p 0 W := by
  obtain ⟨hc, cs, rs, pbs, e1, e2, e3, e4, e5, e6, e7, e8, e9⟩ := h
  refine ⟨cs, pbs 0, pbs 1, _, _, _, _, _, _, _, _, hc, e7 0 (by omega), e7 1 (by omega), fun x hx hy => ?_, fun x hx => ?_, hlb, by simp, by simp⟩
  · have h1 := e9 0 1 (by omega) (by omega)
    rcases hx with hx | hx
    · rcases hy with hy | hy
      · exact h1 (hx.symm.trans hy)
      · exact hy
    · exact hx
  · have h0 := e8 0 (by omega)
    have h1 := e8 1 (by omega)
    rcases hx with hx | hx | hx | hx | hx
    · omega
    · exact hx.elim
    · omega
    · exact hx.elim
    · omega

/-- A step on one side; the other one stays. -/
theorem duo_turn {w W W' : World} {lb p pa pb off off' : Nat} {cs : Array Value} {Ba Bb : BagS} {FPa FRa FPb FRb C F : Nat → Prop} (ha : BothAt W lb off cs p pa Ba FPa FRa C F) (hb : BothAt W lb off' cs p pb Bb FPb FRb C F) (hx : ∀ x, FPa x ∨ FRa x → ¬ (FPb x ∨ FRb x))
    (hlo : ∀ x, FPa x ∨ FRa x ∨ FPb x ∨ FRb x ∨ F x → w.heap.size ≤ x) (hlb : w.heap.size ≤ lb) (hc : Chg Noth w W) (hoff : off + 5 ≤ off' ∨ off' + 5 ≤ off) (h : StepRest W lb off cs p pa Ba FPa FRa C F W') :
    ∃ (cs' : Array Value) (Ba' : BagS) (FPa' FRa' C' F' : Nat → Prop), Chg Noth w W' ∧ BothAt W' lb off cs' p pa Ba' FPa' FRa' C' F' ∧ BothAt W' lb off' cs' p pb Bb FPb FRb C' F' ∧ (∀ x, FPa' x ∨ FRa' x → ¬ (FPb x ∨ FRb x)) ∧
      (∀ x, FPa' x ∨ FRa' x ∨ FPb x ∨ FRb x ∨ F' x → w.heap.size ≤ x) ∧ Ba'.last ≤ Ba.last + 1 := by
  obtain ⟨m, cs', Ba', FPa', FRa', C', F', rfl, hA, hF, hcs, hr, hl⟩ := h
  have hs := hc.size
  have hCF := ha.book.core
  have hPb : ∀ x, FPb x → x < W.heap.size := fun x h => hb.bag.lt h
  have hRb : ∀ x, FRb x → x < W.heap.size := fun x h => hb.ref.lt h
  have gP : ∀ x, FPb x → ¬ FX lb FPa FRa C x := fun x h e => by
    rcases e with e | e | e | e
    · exact hb.s4.1 (e ▸ h)
    · exact hx x (.inl e) (.inl h)
    · exact hx x (.inr e) (.inl h)
    · exact hb.s2 x h (hCF x e)
  have gR : ∀ x, FRb x → ¬ FX lb FPa FRa C x := fun x h e => by
    rcases e with e | e | e | e
    · exact hb.ref.notlb (e ▸ h)
    · exact hx x (.inl e) (.inr h)
    · exact hx x (.inr e) (.inr h)
    · exact hb.s3 x h (hCF x e)
  have hlbl := (Array.getElem?_eq_some_iff.1 ha.ref.blk).1
  refine ⟨cs', Ba', FPa', FRa', C', F', hc.trans m.h fun x h e => ?_, hA, hb.other m.h gP gR hA.ref.blk (fun i h1 h2 => hcs i (by omega)) hA.book fun x h => ?_, fun x h h' => ?_, fun x h => ?_, hl⟩
  · rcases e with e | e | e | e
    · omega
    · have := hlo x (.inl e); omega
    · have := hlo x (.inr (.inl e)); omega
    · have := hlo x (.inr (.inr (.inr (.inr (hCF x e))))); omega
  · rcases hF x (.inr (.inr h)) with e | e
    · rcases e with e | e | e
      · exact ⟨fun e' => hx x (.inl e) (.inl e'), fun e' => hx x (.inl e) (.inr e'), fun e' => ha.s4.1 (e' ▸ e)⟩
      · exact ⟨fun e' => hx x (.inr e) (.inl e'), fun e' => hx x (.inr e) (.inr e'), fun e' => ha.ref.notlb (e' ▸ e)⟩
      · exact ⟨fun e' => hb.s2 x e' e, fun e' => hb.s3 x e' e, fun e' => ha.s4.2 (e' ▸ e)⟩
    · exact ⟨fun e' => by have := hPb x e'; omega, fun e' => by have := hRb x e'; omega, fun e' => by omega⟩
  · have hor : FPa' x ∨ FRa' x ∨ F' x := by
      rcases h with h | h
      · exact .inl h
      · exact .inr (.inl h)
    rcases hF x hor with e | e
    · rcases e with e | e | e
      · exact hx x (.inl e) h'
      · exact hx x (.inr e) h'
      · rcases h' with h' | h'
        · exact hb.s2 x h' e
        · exact hb.s3 x h' e
    · rcases h' with h' | h'
      · have := hPb x h'; omega
      · have := hRb x h'; omega
  · have key : ∀ x, FPa' x ∨ FRa' x ∨ F' x → w.heap.size ≤ x := fun x h => by
      rcases hF x h with e | e
      · rcases e with e | e | e
        · exact hlo x (.inl e)
        · exact hlo x (.inr (.inl e))
        · exact hlo x (.inr (.inr (.inr (.inr e))))
      · omega
    rcases h with h | h | h | h | h
    · exact key x (.inl h)
    · exact key x (.inr (.inl h))
    · exact hlo x (.inr (.inr (.inl h)))
    · exact hlo x (.inr (.inr (.inr (.inl h))))
    · exact key x (.inr (.inr h))

theorem who_and (x : Int) : bits BinOp.and IntKind.i64 x 1 = 0 ∨ bits BinOp.and IntKind.i64 x 1 = 1 := by
  unfold bits
  simp only [BitVec.toNat_and]
  have e : (BitVec.ofInt IntKind.i64.bits 1).toNat = 1 := by decide
  rw [e, Nat.and_one_is_mod]
  rcases Nat.mod_two_eq_zero_or_one (BitVec.ofInt IntKind.i64.bits x).toNat with h | h
  · left; rw [h]; decide
  · right; rw [h]; decide
theorem Duo.chg {w W : World} {lb p q : Nat} (h : Duo w lb p q W) : Chg Noth w W := by
  obtain ⟨_, _, _, _, _, _, _, _, _, _, _, hc, _⟩ := h
  exact hc
theorem Duo.grow {w W W' : World} {lb p q : Nat} (h : Duo w lb p q W) (hg : Chg Noth W W') : Duo w lb p q W' := by
  obtain ⟨cs, pa, pb, Ba, Bb, FPa, FRa, FPb, FRb, C, F, hc, h1, h2, h3⟩ := h
  exact ⟨cs, pa, pb, Ba, Bb, FPa, FRa, FPb, FRb, C, F, hc.trans hg fun _ _ e => e, h1.grow hg, h2.grow hg, h3⟩
theorem duo_step0 {w W : World} {lb p q : Nat} (h : Duo w lb p q W) (o : OpS) (D : Option Addr) (n dc : Nat) (hn : n = o.data.length) (hD : SL w (.slice D n dc) n 1 (bv o.data)) (hle : n ≤ 100000) (hq : q ≤ 1000) (hj : -9223372036854775808 ≤ o.j ∧ o.j ≤ 9223372036854775807) :
    Calls Tryz.prog 21 #[.pointer (some ⟨lb, 0, none⟩), opval o D n dc] W fun e W' => e = .returned (.bool true) ∧ Duo w lb p (q + 1) W' := by
  obtain ⟨cs, pa, pb, Ba, Bb, FPa, FRa, FPb, FRb, C, F, hc, h1, h2, h3, h4, h5, h6, h7⟩ := h
  refine (step_any lb 0 cs p pa Ba FPa FRa C F W h1 o D n dc hn (hD.grow hc) (fun hp x hx => ?_) hle (by omega) hj).mono ?_
  · have := hD.own_lt hp x hx
    exact ⟨by omega, fun e => by have := h4 x (.inl e); omega, fun e => by have := h4 x (.inr (.inl e)); omega⟩
  · rintro e W' ⟨rfl, hr⟩
    obtain ⟨cs', Ba', FPa', FRa', C', F', k1, k2, k3, k4, k5, k6⟩ := duo_turn h1 h2 h3 h4 h5 hc (by omega) hr
    exact ⟨rfl, cs', pa, pb, Ba', Bb, FPa', FRa', FPb, FRb, C', F', k1, k2, k3, k4, k5, h5, by omega, by omega⟩
theorem duo_step5 {w W : World} {lb p q : Nat} (h : Duo w lb p q W) (o : OpS) (D : Option Addr) (n dc : Nat) (hn : n = o.data.length) (hD : SL w (.slice D n dc) n 1 (bv o.data)) (hle : n ≤ 100000) (hq : q ≤ 1000) (hj : -9223372036854775808 ≤ o.j ∧ o.j ≤ 9223372036854775807) :
    Calls Tryz.prog 21 #[.pointer (some ⟨lb, 5, none⟩), opval o D n dc] W fun e W' => e = .returned (.bool true) ∧ Duo w lb p (q + 1) W' := by
  obtain ⟨cs, pa, pb, Ba, Bb, FPa, FRa, FPb, FRb, C, F, hc, h1, h2, h3, h4, h5, h6, h7⟩ := h
  refine (step_any lb 5 cs p pb Bb FPb FRb C F W h2 o D n dc hn (hD.grow hc) (fun hp x hx => ?_) hle (by omega) hj).mono ?_
  · have := hD.own_lt hp x hx
    exact ⟨by omega, fun e => by have := h4 x (.inr (.inr (.inl e))); omega, fun e => by have := h4 x (.inr (.inr (.inr (.inl e)))); omega⟩
  · rintro e W' ⟨rfl, hr⟩
    have h4' : ∀ x, FPb x ∨ FRb x ∨ FPa x ∨ FRa x ∨ F x → w.heap.size ≤ x := fun x hx => h4 x (by
      rcases hx with hx | hx | hx | hx | hx
      · exact .inr (.inr (.inl hx))
      · exact .inr (.inr (.inr (.inl hx)))
      · exact .inl hx
      · exact .inr (.inl hx)
      · exact .inr (.inr (.inr (.inr hx))))
    obtain ⟨cs', Bb', FPb', FRb', C', F', k1, k2, k3, k4, k5, k6⟩ := duo_turn h2 h1 (fun x hx hy => h3 x hy hx) h4' h5 hc (by omega) hr
    exact ⟨rfl, cs', pa, pb, Ba, Bb', FPa, FRa, FPb', FRb', C', F', k1, k3, k2, fun x hx hy => k4 x hy hx, fun x hx => k5 x (by
      rcases hx with hx | hx | hx | hx | hx
      · exact .inr (.inr (.inl hx))
      · exact .inr (.inr (.inr (.inl hx)))
      · exact .inl hx
      · exact .inr (.inl hx)
      · exact .inr (.inr (.inr (.inr hx)))), h5, by omega, by omega⟩
theorem duo_look {w W : World} {lb p q : Nat} (h : Duo w lb p q W) (off : Nat) (ho : off = 0 ∨ off = 5) :
    Calls Tryz.prog 22 #[.pointer (some ⟨lb, off, none⟩)] W fun e W' => e = .returned (.bool true) ∧ Duo w lb p q W' := by
  obtain ⟨cs, pa, pb, Ba, Bb, FPa, FRa, FPb, FRb, C, F, hc, h1, h2, h3, h4, h5, h6, h7⟩ := h
  have hs := hc.size
  have hCF := h1.book.core
  have key : ∀ (C' F' : Nat → Prop) (W' : World), Chg C W W' → BookIs KT 53 W' p C' F' → (∀ x, F' x → F x ∨ W.heap.size ≤ x) → Duo w lb p q W' := fun C' F' W' hm hb hF =>
    ⟨cs, pa, pb, Ba, Bb, FPa, FRa, FPb, FRb, C', F', hc.trans hm fun x hx e => by have := h4 x (.inr (.inr (.inr (.inr (hCF x e))))); omega, h1.booked hm hb hF, h2.booked hm hb hF, h3, fun x hx => by
      rcases hx with hx | hx | hx | hx | hx
      · exact h4 x (.inl hx)
      · exact h4 x (.inr (.inl hx))
      · exact h4 x (.inr (.inr (.inl hx)))
      · exact h4 x (.inr (.inr (.inr (.inl hx))))
      · rcases hF x hx with e | e
        · exact h4 x (.inr (.inr (.inr (.inr e))))
        · omega, h5, h6, h7⟩
  rcases ho with rfl | rfl
  · refine (looks_any lb 0 cs p pa Ba FPa FRa C F W h1).mono ?_
    rintro e W' ⟨rfl, m, C', F', rfl, hb, _, hF⟩
    exact ⟨rfl, key C' F' m.w m.h hb.book hF⟩
  · refine (looks_any lb 5 cs p pb Bb FPb FRb C F W h2).mono ?_
    rintro e W' ⟨rfl, m, C', F', rfl, hb, _, hF⟩
    exact ⟨rfl, key C' F' m.w m.h hb.book hF⟩

/-- A script of datagrams' operations in memory, as the law's argument has it; blocks of it are older than n0. -/
theorem play_any (r0 r1 : Int) (A : Option Addr) (n cap : Nat) (ops : List OpS) (hn : n = ops.length) (w : World) (hS : Scr w A ops) :
    Calls Tryz.prog 6 #[.agg #[i64 r0, i64 r1], .slice A n cap, .bool false] w (Gr (.bool true) w) := by
  have hal := fun W => alive_any W
  have HN := Lib.hid hn
  clear hn
  by_cases hbig : 150 < n
  · go_enter Tryz.func6, Tryz.ntmps6
    go_wp2_with (go_at_call 19; refine (hal _).mono ?_; rintro e w' ⟨rfl, g, rfl⟩)
    exact bodyPost_ret (v := .bool true) (by simp [results, Tryz.results6, go_sem]) rfl (gr_mk rfl (by repeat (with_reducible first | exact Chg.refl _ _ | refine chg_m ?_ _ | refine chg_g ?_ _ | refine chg_alloc ?_ _ | refine chg_drew ?_ | refine chg_drewN ?_ _ | refine chg_set ?_ _ _ _)))
  · go_enter Tryz.func6, Tryz.ntmps6
    go_wp2_with (go_at_call 19; refine (hal _).mono ?_; rintro e w' ⟨rfl, g, rfl⟩)
    have hc1 := chg_g (chg_alloc (Chg.refl Noth w) (.cells #[i64 r0, i64 r1] 22)) g
    have hrb0 : g.w.heap[w.heap.size]? = some (.cells #[i64 r0, i64 r1] 22 (0, 0)) := by rw [g.h.block _ (by simp) (fun e => e)]; exact heap_alloc_new _ _
    have hgs : w.heap.size < g.w.heap.size := (Array.getElem?_eq_some_iff.1 hrb0).1
    obtain ⟨W0, hW0⟩ : ∃ W0, W0 = g.w := ⟨_, rfl⟩
    rw [← hW0] at hc1 hrb0 hgs ⊢
    clear hW0 g
    obtain ⟨p, hp⟩ : ∃ p, p = W0.heap.size := ⟨_, rfl⟩
    obtain ⟨lb, hlb⟩ : ∃ lb, lb = p + 1 := ⟨_, rfl⟩
    obtain ⟨rb, hrb⟩ : ∃ rb, rb = w.heap.size := ⟨_, rfl⟩
    obtain ⟨r, hr⟩ : ∃ r : Nat → Int, r = fun j => if j = 0 then r0 else r1 := ⟨_, rfl⟩
    rw [← hp, ← hlb, ← hrb]
    have hM0 : ∀ W1, W1 = (W0.alloc (.cells #[.slice none 0 0, .slice none 0 0, .slice none 0 0, .slice none 0 0, .slice none 0 0, .slice none 0 0, .slice none 0 0, .slice none 0 0, .slice none 0 0, .slice none 0 0, .slice none 0 0, .slice none 0 0, .slice none 0 0, .slice none 0 0, .slice none 0 0, .slice none 0 0, .slice none 0 0, .slice none 0 0, .slice none 0 0, .slice none 0 0, .slice none 0 0, .slice none 0 0, .slice none 0 0, .slice none 0 0] 53)).alloc (.cells #[.pointer none, .slice none 0 0, i64 0, i64 0, .pointer none, .pointer none, .slice none 0 0, i64 0, i64 0, .pointer none] 63) → Made w lb p rb r 0 W1 := by
      rintro W1 rfl
      refine ⟨chg_alloc (chg_alloc hc1 _) _, _, #[i64 r0, i64 r1], fun _ => 0, by rw [hlb, hp]; exact heap_alloc_hs _ _ _, rfl, ?_, rfl, fun j _ hj => ?_, new_book ?_, fun j hj => by omega, fun j hj => by omega, fun i j hi hj => by omega⟩
      · rw [Below.heap_alloc _ _ _ (by simp; omega), Below.heap_alloc _ _ _ (by omega), hrb]; exact hrb0
      · rcases (show j = 0 ∨ j = 1 by omega) with rfl | rfl <;> simp [hr]
      · rw [Below.heap_alloc _ _ _ (by simp; omega), hp]; exact heap_alloc_new _ _
    have HM := Lib.hid (hM0 _ rfl)
    have hle2 : (w.heap.size ≤ lb ∧ w.heap.size ≤ rb ∧ p ≠ lb ∧ p ≠ rb) ∧ w.heap.size ≤ p := by omega
    have HPE := Lib.hid (And.intro hle2 hr)
    clear hM0 hle2 hr hp hlb hrb hrb0 hgs
    go_loopw [9, 6] (fun i r6 wr => ∃ k : Nat, k ≤ 2 ∧ i = .int .i64 k ∧ r6 = .bool false ∧ Made w lb p rb r k wr) (fun i _ _ => 2 - (intOf i).toNat)
    case atStart => exact ⟨0, by omega, rfl, rfl, HM.out⟩
    case round =>
      obtain ⟨k, hk, rfl, rfl, hM⟩ := hrel
      by_cases hk2 : k < 2
      · have hMc := hM
        obtain ⟨hc, cs, rs, pbs, e1, e2, e3, e4, e5, e6, -⟩ := hM
        have hrk := e5 k (Nat.le_refl _) hk2
        have jr : Old rb wr := ⟨(Array.getElem?_eq_some_iff.1 e3).1⟩
        have jl : Old lb wr := ⟨(Array.getElem?_eq_some_iff.1 e1).1⟩
        have x0 : wr.cell? ⟨rb, k, none⟩ = some (i64 (r k)) := by rw [cell_of_row _ _ _ _ _ _ e3]; exact hrk
        have x1 : wr.frozen? ⟨rb, k, none⟩ = false := frozen_of_row _ _ _ _ _ e3
        have kx : HasCell wr rb k := ⟨by rw [x0]; rfl⟩
        have f0 : ∀ i, wr.frozen? ⟨lb, i, none⟩ = false := fun i => frozen_of_row _ _ _ _ _ e1
        have q0 : HasCell wr lb (k * 5) := ⟨by rw [cell_of_row _ _ _ _ _ _ e1]; simp [e2]; omega⟩
        have q1 : HasCell wr lb (k * 5 + 1) := ⟨by rw [cell_of_row _ _ _ _ _ _ e1]; simp [e2]; omega⟩
        have q2 : HasCell wr lb (k * 5 + 2) := ⟨by rw [cell_of_row _ _ _ _ _ _ e1]; simp [e2]; omega⟩
        have q3 : HasCell wr lb (k * 5 + 3) := ⟨by rw [cell_of_row _ _ _ _ _ _ e1]; simp [e2]; omega⟩
        have q4 : HasCell wr lb (k * 5 + 4) := ⟨by rw [cell_of_row _ _ _ _ _ _ e1]; simp [e2]; omega⟩
        obtain ⟨v0, y0⟩ : ∃ v, wr.cell? ⟨lb, k * 5, none⟩ = some v := ⟨_, by rw [cell_of_row _ _ _ _ _ _ e1]; exact Array.getElem?_eq_getElem (by omega)⟩
        obtain ⟨v1, y1⟩ : ∃ v, wr.cell? ⟨lb, k * 5 + 1, none⟩ = some v := ⟨_, by rw [cell_of_row _ _ _ _ _ _ e1]; exact Array.getElem?_eq_getElem (by omega)⟩
        obtain ⟨v2, y2⟩ : ∃ v, wr.cell? ⟨lb, k * 5 + 2, none⟩ = some v := ⟨_, by rw [cell_of_row _ _ _ _ _ _ e1]; exact Array.getElem?_eq_getElem (by omega)⟩
        obtain ⟨v3, y3⟩ : ∃ v, wr.cell? ⟨lb, k * 5 + 3, none⟩ = some v := ⟨_, by rw [cell_of_row _ _ _ _ _ _ e1]; exact Array.getElem?_eq_getElem (by omega)⟩
        obtain ⟨v4, y4⟩ : ∃ v, wr.cell? ⟨lb, k * 5 + 4, none⟩ = some v := ⟨_, by rw [cell_of_row _ _ _ _ _ _ e1]; exact Array.getElem?_eq_getElem (by omega)⟩
        have nlr : ¬ lb = rb := fun e => by rw [e, e3] at e1; cases e1
        have nrl : ¬ rb = lb := fun e => nlr e.symm
        have HMc := Lib.hid hMc
        have HE := Lib.hid (And.intro e1 e3)
        clear hMc e1 e3 e5 e6 hc
        obtain ⟨rk, hrk2⟩ : ∃ rk, Hid (r k = rk) := ⟨_, Lib.hid rfl⟩
        rw [hrk2.out] at hrk x0
        rcases (show (0 ≤ rk ∧ rk ≤ 65536) ∨ rk < 0 ∨ (0 ≤ rk ∧ 65536 < rk) by omega) with ⟨h0, h1⟩ | h0 | ⟨h0, h1⟩
        · have hnew := fun W => new_good rk W h0 h1
          go_wp2_with (go_at_call 20; refine (hnew _).mono ?_; rintro e w' ⟨rfl, ⟨g1, rfl⟩, hbag⟩)
          obtain ⟨⟨⟨z1, z2, z3, z4⟩, _⟩, _⟩ := HPE.out
          have ero : roomOf (r k) = rk := by rw [hrk2.out]; unfold roomOf; rw [if_neg (by omega)]
          have hM2 := made_end HMc.out hk2 z1 z2 ⟨z3, z4⟩ g1.h (by rw [ero]; exact hbag) (Nat.le_refl _) (Chg.refl (fun x => x = rb) _) (rs' := rs) ((g1.h.block rb jr.lt fun e => e).trans HE.out.2) e4 (fun rs2 e j _ => by rw [HE.out.2] at e; cases e; rfl)
          rw [ero] at hM2
          exact ⟨⟨k + 1, by omega, by go_num, rfl, hM2⟩, by simp [intOf]; omega⟩
        all_goals
          have hnew := fun W => new_bad rk W (by omega)
          go_wp2_with (go_at_call 20; refine (hnew _).mono ?_; rintro e w' ⟨rfl, g1, rfl⟩)
          obtain ⟨⟨⟨z1, z2, z3, z4⟩, _⟩, _⟩ := HPE.out
          have ero : roomOf (r k) = 0 := by rw [hrk2.out]; unfold roomOf; rw [if_pos (by omega)]
          have hrl : rb < g1.w.heap.size := Nat.lt_of_lt_of_le jr.lt g1.h.size
          have hll : lb < g1.w.heap.size := Nat.lt_of_lt_of_le jl.lt g1.h.size
          have hcA : Chg Noth wr (g1.w.alloc (.cells #[i64 0, i64 0, .slice none 0 0] 67)) := chg_alloc g1.h _
          have mm : May rb (fun x => x = rb) (g1.w.alloc (.cells #[i64 0, i64 0, .slice none 0 0] 67)) := ⟨.inl rfl⟩
          have hM2 := made_end HMc.out hk2 z1 z2 ⟨z3, z4⟩ hcA (by rw [ero]; exact zero_bag g1.w) g1.h.size (chg_set (Chg.refl (fun x => x = rb) _) rb k (i64 0)) (rs' := rs.setIfInBounds k (i64 0))
            (heap_setCell_same _ rb k _ _ (i64 0) ((hcA.block rb jr.lt fun e => e).trans HE.out.2)) (by simpa using e4) (fun rs2 e j hj => by rw [HE.out.2] at e; cases e; rw [Array.getElem?_setIfInBounds_ne (by omega)])
          rw [ero] at hM2
          rw [World.setCell_alloc_past _ _ _ _ hrl, World.setCell_alloc_past _ _ _ _ (by simpa [World.setCell] using hll), World.setCell_alloc_past _ _ _ _ (by simpa [World.setCell] using hll), World.setCell_alloc_past _ _ _ _ (by simpa [World.setCell] using hll), World.setCell_alloc_past _ _ _ _ (by simpa [World.setCell] using hll), World.setCell_alloc_past _ _ _ _ (by simpa [World.setCell] using hll)] at hM2
          exact ⟨⟨k + 1, by omega, by go_num, rfl, hM2⟩, by simp [intOf]; omega⟩
      · obtain rfl : k = 2 := by omega
        have hD := duo_init hM HPE.out.1.1.1 HPE.out.1.2
        have HD := Lib.hid hD
        clear hD hM HM HPE
        go_wp2
        go_loopw [12, 6] (fun i r6 wr => ∃ q : Nat, q ≤ n ∧ i = .int .i64 q ∧ r6 = .bool false ∧ Duo w lb p q wr) (fun i _ _ => n - (intOf i).toNat)
        case atStart => exact ⟨0, Nat.zero_le _, rfl, rfl, HD.out⟩
        case round =>
          clear HD
          obtain ⟨q, hq, rfl, rfl, hD⟩ := hrel
          by_cases hqn : q < n
          · obtain ⟨o, ho⟩ : ∃ o, ops[q]? = some o := ⟨_, List.getElem?_eq_getElem (by have := HN.out; omega)⟩
            obtain ⟨b, so, D, dc, rfl, hbl, c0, c1, c2, c3, c4, c5, hSL⟩ := hS.cells q o ho
            obtain ⟨dn, hdn⟩ : ∃ dn, dn = o.data.length := ⟨_, rfl⟩
            rw [← hdn] at c5 hSL
            have hc := hD.chg
            have jb : Old b wr := ⟨Nat.lt_of_lt_of_le hbl hc.size⟩
            have d0 := (hc.cell (p := ⟨b, so + q * 6, none⟩) hbl fun e => e).trans c0
            have d1 := (hc.cell (p := ⟨b, so + q * 6 + 1, none⟩) hbl fun e => e).trans c1
            have d2 := (hc.cell (p := ⟨b, so + q * 6 + 2, none⟩) hbl fun e => e).trans c2
            have d3 := (hc.cell (p := ⟨b, so + q * 6 + 3, none⟩) hbl fun e => e).trans c3
            have d4 := (hc.cell (p := ⟨b, so + q * 6 + 4, none⟩) hbl fun e => e).trans c4
            have d5 := (hc.cell (p := ⟨b, so + q * 6 + 5, none⟩) hbl fun e => e).trans c5
            have HCS := Lib.hid (And.intro c0 (And.intro c1 (And.intro c2 (And.intro c3 (And.intro c4 c5)))))
            have hrg := hS.range o (List.mem_of_getElem? ho)
            have HDN := Lib.hid hdn
            have HO := Lib.hid ho
            clear hdn ho c0 c1 c2 c3 c4 c5
            by_cases hbg : 2000 < dn
            · go_wp2
              exact bodyPost_ret (v := .bool true) (by simp [results, Tryz.results6, go_sem]) rfl (gr_mk rfl hc)
            · have hs0 := fun W (hW : Chg Noth wr W) => duo_step0 (hD.grow hW) o D dn dc HDN.out hSL (by omega) (by omega) hrg
              have hs5 := fun W (hW : Chg Noth wr W) => duo_step5 (hD.grow hW) o D dn dc HDN.out hSL (by omega) (by omega) hrg
              have HDD := Lib.hid hD
              clear hD
              rcases who_and o.who with hwd | hwd
              all_goals
                go_wp2
                refine wp_region_head_call 11 (by kernel_rfl) (by kernel_rfl) ?_
                simp only [List.take_succ_cons, List.take_zero]
                repeat (go_big_quiet_step (fail))
                refine wpQuiet_nil ?_
                intro g2 o2 ho2
                simp only [List.getElem?_cons_succ, List.getElem?_cons_zero, Option.some.injEq] at ho2
                subst ho2
                simp only [List.drop_succ_cons, List.drop_zero]
                go_simp
                go_at_call 21
                (first | (with_reducible refine (hs0 _ (by repeat (with_reducible first | exact Chg.refl _ _ | refine chg_m ?_ _ | refine chg_g ?_ _ | refine chg_alloc ?_ _ | refine chg_drew ?_ | refine chg_drewN ?_ _ | refine chg_set ?_ _ _ _))).mono ?_) | (with_reducible refine (hs5 _ (by repeat (with_reducible first | exact Chg.refl _ _ | refine chg_m ?_ _ | refine chg_g ?_ _ | refine chg_alloc ?_ _ | refine chg_drew ?_ | refine chg_drewN ?_ _ | refine chg_set ?_ _ _ _))).mono ?_))
                rintro e w2 ⟨rfl, hD2⟩
                have HD2 := Lib.hid hD2
                clear hD2
                dsimp only
                unfold RestQ
                repeat (go_big_quiet_step (fail))
                refine wpQuiet_nil ?_
                intro g3
                go_wp2
                refine ⟨?_, ?_⟩
                · repeat apply Exists.intro
                  refine ⟨?_, rfl⟩
                  exact ⟨q + 1, by omega, by go_num, rfl, HD2.out.grow g3.h⟩
                · simp [intOf]; omega
          · obtain rfl : q = n := by omega
            have hl0 := fun W (hW : Duo w lb p q W) => duo_look hW 0 (.inl rfl)
            have hl5 := fun W (hW : Duo w lb p q W) => duo_look hW 5 (.inr rfl)
            go_wp2_with (go_at_call 22; (first | (with_reducible refine (hl0 _ (hD.grow (by repeat (with_reducible first | exact Chg.refl _ _ | refine chg_m ?_ _ | refine chg_g ?_ _ | refine chg_alloc ?_ _ | refine chg_drew ?_ | refine chg_drewN ?_ _ | refine chg_set ?_ _ _ _)))).mono ?_; rintro e w2 ⟨rfl, hD2⟩) | (with_reducible refine (hl5 _ (hD2.grow (by repeat (with_reducible first | exact Chg.refl _ _ | refine chg_m ?_ _ | refine chg_g ?_ _ | refine chg_alloc ?_ _ | refine chg_drew ?_ | refine chg_drewN ?_ _ | refine chg_set ?_ _ _ _)))).mono ?_; rintro e w3 ⟨rfl, hD3⟩)))
            exact bodyPost_ret (v := .bool true) (by simp [results, Tryz.results6, go_sem]) rfl (gr_mk rfl hD3.chg)
end Go.Proofs.YteemkceceaabkaaGreat
