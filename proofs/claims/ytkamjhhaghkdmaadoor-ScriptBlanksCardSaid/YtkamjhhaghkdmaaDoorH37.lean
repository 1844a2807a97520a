/- script: the small functions. script.isName. script: the places of a step's words. A region that draws its order, all of whose operations are wanted: what each slot holds is told by a predicate of the world at hand, which grows; so each order comes to the same. -/
import Derived.Test.YtkamjhhaghkdmaaDoorH36
import Derived.Test.YtkamjhhaghkdmaaDoorH15
import Derived.Laws.EntriesVeiled
import Derived.Orders
namespace Go.Proofs.YtkamjhhaghkdmaaDoor
open Go.RowKit Go.Ear Go.Shelf
set_option maxHeartbeats 1000000
set_option maxRecDepth 100000
set_option linter.unusedSimpArgs false
set_option linter.unusedVariables false
theorem first_v (b o : Nat) (w : World) (hb : b < w.heap.size) : Calls Tryd.prog 45 #[.pointer (some ⟨b, o, none⟩)] w (fun e w' => e = .returned (.pointer (some ⟨b, o + 1, none⟩)) ∧ w' = w) := by
  have jb : Old b w := ⟨hb⟩
  go_enter Tryd.func45, Tryd.ntmps45
  go_wp2_with fail
  go_ret
  exact ⟨rfl, rfl⟩
theorem second_v (b o : Nat) (w : World) (hb : b < w.heap.size) : Calls Tryd.prog 46 #[.pointer (some ⟨b, o, none⟩)] w (fun e w' => e = .returned (.pointer (some ⟨b, o + 2, none⟩)) ∧ w' = w) := by
  have jb : Old b w := ⟨hb⟩
  go_enter Tryd.func46, Tryd.ntmps46
  go_wp2_with fail
  go_ret
  exact ⟨rfl, rfl⟩
theorem third_v (b o : Nat) (w : World) (hb : b < w.heap.size) : Calls Tryd.prog 47 #[.pointer (some ⟨b, o, none⟩)] w (fun e w' => e = .returned (.pointer (some ⟨b, o + 3, none⟩)) ∧ w' = w) := by
  have jb : Old b w := ⟨hb⟩
  go_enter Tryd.func47, Tryd.ntmps47
  go_wp2_with fail
  go_ret
  exact ⟨rfl, rfl⟩
theorem isKind_fn (k : Int) (w : World) : Calls Tryd.prog 58 #[.int .i64 k] w (fun e w' => e = .returned (.func (.func 78) #[] #[.pointer (some ⟨w.heap.size, 0, none⟩)]) ∧ w' = w.alloc (.cells #[.int .i64 k] 3)) := by
  have hmf : ∀ (fn : Fn) (first cap : Array Value) (w : World), (Instr.makeFunc fn first cap).run Tryd.prog w = .ok (.func fn first cap) w := fun _ _ _ _ => rfl
  go_enter Tryd.func58, Tryd.ntmps58
  go_wp2_with fail
  go_ret
  exact ⟨rfl, rfl⟩
theorem isKind1_v (b : Nat) (k : Int) (ln : Nat) (y : Wd) (w : World) (hk : w.cell? ⟨b, 0, none⟩ = some (.int .i64 k)) (hb : b < w.heap.size) : Calls Tryd.prog 78 #[.agg #[.int .i64 y.kind, .string ⟨y.text.toArray⟩, .int .i64 (ln : Int), .int .i64 (y.col : Int)], .pointer (some ⟨b, 0, none⟩)] w (fun e w' => e = .returned (.bool (y.kind == k)) ∧ Chg Noth w w') := by
  have jb : Old b w := ⟨hb⟩
  obtain ⟨kd, hkd⟩ : ∃ kd, y.kind = kd := ⟨_, rfl⟩
  rw [hkd]
  clear hkd
  go_enter Tryd.func78, Tryd.ntmps78
  go_wp2_with fail
  go_ret
  exact ⟨rfl, chg_alloc (Chg.refl _ _) _⟩
theorem isNumber_v (v : Int) (w : World) : Calls Tryd.prog 61 #[.int .i64 v] w (fun e w' => e = .returned (.bool (decide (0 ≤ v) && decide (v ≤ 1099511627776))) ∧ w' = w) := by
  by_cases h : 0 ≤ v
  · have x1 : decide (0 ≤ v) = true := decide_eq_true h
    rw [x1]
    go_enter Tryd.func61, Tryd.ntmps61
    go_wp2_with fail
    go_ret
    exact ⟨rfl, rfl⟩
  · have x1 : decide (0 ≤ v) = false := decide_eq_false h
    rw [x1]
    go_enter Tryd.func61, Tryd.ntmps61
    go_wp2_with fail
    go_ret
    exact ⟨rfl, rfl⟩
end Go.Proofs.YtkamjhhaghkdmaaDoor
namespace Go.Proofs.YtkamjhhaghkdmaaDoor
open Go.RowKit Go.Ear Go.Shelf
set_option maxHeartbeats 1000000
set_option maxRecDepth 100000
set_option linter.unusedSimpArgs false
set_option linter.unusedVariables false
theorem isName_v (ln : Nat) (y : Wd) (s : ByteArray) (w : World) : Calls Tryd.prog 31 #[.agg #[.int .i64 y.kind, .string ⟨y.text.toArray⟩, .int .i64 (ln : Int), .int .i64 (y.col : Int)], .string s] w (fun e w' => e = .returned (.bool (y.kind == 2 && ((⟨y.text.toArray⟩ : ByteArray).toList == s.toList))) ∧ Chg Noth w w') := by
  obtain ⟨kd, hkd⟩ : ∃ kd, y.kind = kd := ⟨_, rfl⟩
  obtain ⟨t, ht⟩ : ∃ t, (⟨y.text.toArray⟩ : ByteArray) = t := ⟨_, rfl⟩
  rw [hkd, ht]
  clear hkd ht
  by_cases h : kd = 2
  · subst h
    rw [show ((2 : Int) == 2) = true from rfl]
    go_enter Tryd.func31, Tryd.ntmps31
    go_wp2_with fail
    go_ret
    refine ⟨?_, chg_alloc (Chg.refl _ _) _⟩
    rfl
  · have x1 : (kd == 2) = false := beq_eq_false_iff_ne.2 h
    rw [x1]
    go_enter Tryd.func31, Tryd.ntmps31
    go_wp2_with fail
    go_ret
    exact ⟨rfl, chg_alloc (Chg.refl _ _) _⟩
end Go.Proofs.YtkamjhhaghkdmaaDoor
namespace Go.Proofs.YtkamjhhaghkdmaaDoor
open Go.RowKit Go.Ear Go.Shelf
set_option maxHeartbeats 1000000
set_option maxRecDepth 100000
set_option linter.unusedSimpArgs false
set_option linter.unusedVariables false
/-- Which field a number's place is of. -/
def ofF (i : Nat) : Value := .func (.func (if i = 0 then 45 else if i = 1 then 46 else 47)) #[] #[]
/-- A place in memory. -/
def PlV (w : World) : Pl → Value → Prop
  | .sign, v => v = .agg #[.func (.func 63) #[] #[], .func (.func 64) #[] #[], .func (.func 66) #[] #[]]
  | .num i, v => ∃ b1 b2 z1 z2, v = .agg #[.func (.func 78) #[] #[.pointer (some ⟨b1, 0, none⟩)], .func (.func 59) #[] #[.pointer (some ⟨b2, 0, none⟩)], .func (.func 60) #[] #[.pointer (some ⟨b2, 0, none⟩)]] ∧
      w.heap[b1]? = some (.cells #[.int .i64 3] 3 z1) ∧ w.heap[b2]? = some (.cells #[ofF i] 111 z2)
  | .text, v => ∃ b1 z1, v = .agg #[.func (.func 78) #[] #[.pointer (some ⟨b1, 0, none⟩)], .func (.func 68) #[] #[], .func (.func 69) #[] #[]] ∧
      w.heap[b1]? = some (.cells #[.int .i64 4] 3 z1)
theorem blk_grow {w w' : World} (hc : Chg Noth w w') {b : Nat} {o : Obj} (h : w.heap[b]? = some o) : w'.heap[b]? = some o := (hc.block b (Array.getElem?_eq_some_iff.1 h).1 (fun e => e)).trans h
theorem PlV.grow {w w' : World} (hc : Chg Noth w w') : ∀ {p : Pl} {v : Value}, PlV w p v → PlV w' p v
  | .sign, _, h => h
  | .num _, _, ⟨b1, b2, z1, z2, h1, h2, h3⟩ => ⟨b1, b2, z1, z2, h1, blk_grow hc h2, blk_grow hc h3⟩
  | .text, _, ⟨b1, z1, h1, h2⟩ => ⟨b1, z1, h1, blk_grow hc h2⟩
/-- The three functions of a place. -/
theorem PlV.parts {w : World} {p : Pl} {v : Value} (h : PlV w p v) : ∃ x y z, v = .agg #[x, y, z] := by
  cases p with
  | sign => exact ⟨_, _, _, h⟩
  | num i => obtain ⟨b1, b2, z1, z2, h1, _⟩ := h; exact ⟨_, _, _, h1⟩
  | text => obtain ⟨b1, z1, h1, _⟩ := h; exact ⟨_, _, _, h1⟩
theorem sign_v (w : World) : Calls Tryd.prog 48 #[] w (fun e w' => ∃ v, e = .returned v ∧ Chg Noth w w' ∧ PlV w' .sign v) := by
  go_enter Tryd.func48, Tryd.ntmps48
  go_wp2_with fail
  refine bodyPost_ret (v := .agg #[.func (.func 63) #[] #[], .func (.func 64) #[] #[], .func (.func 66) #[] #[]]) (by simp [results, Tryd.results48, go_sem]) rfl ?_
  exact ⟨_, rfl, (by repeat (with_reducible first | exact Chg.refl _ _ | refine chg_alloc ?_ _ | refine chg_set ?_ _ _ _)), rfl⟩
theorem number_v (i : Nat) (w : World) : Calls Tryd.prog 44 #[ofF i] w (fun e w' => ∃ v, e = .returned v ∧ Chg Noth w w' ∧ PlV w' (.num i) v) := by
  have hmf : ∀ (fn : Fn) (first cap : Array Value) (w : World), (Instr.makeFunc fn first cap).run Tryd.prog w = .ok (.func fn first cap) w := fun _ _ _ _ => rfl
  have hk := fun W => isKind_fn 3 W
  unfold ofF
  generalize hfn : (if i = 0 then 45 else if i = 1 then 46 else 47) = fn
  have HF := Lib.hid hfn
  clear hfn
  go_enter Tryd.func44, Tryd.ntmps44
  go_wp2_with (go_at_call 58; refine (hk _).mono ?_; rintro e w' ⟨rfl, rfl⟩)
  refine bodyPost_ret (v := .agg #[.func (.func 78) #[] #[.pointer (some ⟨w.heap.size + 1 + 1, 0, none⟩)], .func (.func 59) #[] #[.pointer (some ⟨w.heap.size, 0, none⟩)], .func (.func 60) #[] #[.pointer (some ⟨w.heap.size, 0, none⟩)]]) (by simp [results, Tryd.results44, go_sem]) rfl ?_
  refine ⟨_, rfl, (by repeat (with_reducible first | exact Chg.refl _ _ | refine chg_alloc ?_ _ | refine chg_set ?_ _ _ _)), w.heap.size + 2, w.heap.size, (0, 0), (0, 0), rfl, ?_, ?_⟩
  · exact heap_hs _ _ (w.heap.size + 1 + 1)
  · unfold ofF
    rw [HF.out]
    exact (Below.heap_alloc _ _ _ (by simp; omega)).trans ((Below.heap_alloc _ _ _ (by simp)).trans (heap_alloc_new _ _))
theorem text_v (w : World) : Calls Tryd.prog 49 #[] w (fun e w' => ∃ v, e = .returned v ∧ Chg Noth w w' ∧ PlV w' .text v) := by
  have hk := fun W => isKind_fn 4 W
  go_enter Tryd.func49, Tryd.ntmps49
  go_wp2_with (go_at_call 58; refine (hk _).mono ?_; rintro e w' ⟨rfl, rfl⟩)
  refine bodyPost_ret (v := .agg #[.func (.func 78) #[] #[.pointer (some ⟨w.heap.size + 1, 0, none⟩)], .func (.func 68) #[] #[], .func (.func 69) #[] #[]]) (by simp [results, Tryd.results49, go_sem]) rfl ?_
  refine ⟨_, rfl, (by repeat (with_reducible first | exact Chg.refl _ _ | refine chg_alloc ?_ _ | refine chg_set ?_ _ _ _)), w.heap.size + 1, (0, 0), rfl, ?_⟩
  exact heap_hs _ _ (w.heap.size + 1)
end Go.Proofs.YtkamjhhaghkdmaaDoor
namespace Go.Ear
open Go.RowKit
section
variable {P : Program} {ops : Array Oper} {md : Region.Mode}
theorem count_set (l : Array Bool) (i : Nat) (h : l.getD i true = false) : (l.setIfInBounds i true).toList.count false + 1 = l.toList.count false := by
  have hi : i < l.size := by
    rcases Nat.lt_or_ge i l.size with h' | h'
    · exact h'
    · simp [h'] at h
  have hv : l.toList[i]? = some false := by
    simp [hi] at h
    simp [hi, h]
  rw [Array.toList_setIfInBounds]
  generalize l.toList = L at *
  clear h hi
  induction L generalizing i with
  | nil => simp at hv
  | cons b L ih =>
    cases i with
    | zero =>
      simp at hv
      subst hv
      simp
    | succ i =>
      simp at hv
      have := ih i hv
      cases b <;> simp <;> omega
/-- By an invariant of what is done. -/
theorem wpAny_inv {Q : Exit → Act → World → Prop} (I : Array Bool → Act → World → Prop)
    (hs : ∀ listed a w i, I listed a w → i ∈ Region.ready md ops listed → wpOp P ops Q i (fun a' w' => I (listed.setIfInBounds i true) a' w') a w)
    (hf : ∀ listed a w, I listed a w → Region.ready md ops listed = [] → Q .normal a w) : ∀ (fuel : Nat) (listed : Array Bool) (a : Act) (w : World), listed.toList.count false ≤ fuel → I listed a w → wpAny P md ops Q fuel listed a w
  | 0, listed, a, w, hc, hi => by
    have h0 : Region.ready md ops listed = [] := by
      refine List.eq_nil_iff_forall_not_mem.2 fun i hi => ?_
      have := count_set listed i (mem_ready.1 hi).1
      omega
    exact ⟨h0, hf _ _ _ hi h0⟩
  | fuel + 1, listed, a, w, hc, hi => ⟨hf _ _ _ hi, fun i hr => wpOp_mono (fun a' w' h => wpAny_inv I hs hf fuel _ a' w' (by
      have := count_set listed i (mem_ready.1 hr).1
      omega) h) (hs _ _ _ _ hi hr)⟩
/-- What an operation comes to: a value that meets V in a world that has grown. -/
def opOk (P : Program) (V : Value → World → Prop) (w : World) : Result Next → Prop
  | .ok (.value v) w' => Chg Noth w w' ∧ V v w'
  | .ok (.enter f args) w' => w' = w ∧ Calls P f args w (fun e w'' => ∃ v, e = .returned v ∧ Chg Noth w w'' ∧ V v w'')
  | _ => False
/-- The region is plain: no guards, each slot written once, none of those that it was handed. -/
def typedB (ops : Array Oper) (base : List Nat) (N : Nat) : Bool :=
  (List.range ops.size).all fun i => match ops[i]? with
    | none => false
    | some o => o.guard.isNone && (match o.dst with
        | none => false
        | some s => decide (s < N) && !base.contains s && (List.range i).all fun j => match ops[j]? with
            | none => true
            | some o' => decide (o'.dst ≠ some s)) && o.after.all fun e => decide (e.on < i)
theorem typedB_spec {base : List Nat} {N : Nat} (h : typedB ops base N = true) {i : Nat} {o : Oper} (ho : ops[i]? = some o) : o.guard = none ∧ (∃ s, o.dst = some s ∧ s < N ∧ s ∉ base ∧ ∀ j o', j < i → ops[j]? = some o' → o'.dst ≠ some s) ∧ ∀ e ∈ o.after, e.on < i := by
  have hi := (Array.getElem?_eq_some_iff.1 ho).1
  unfold typedB at h
  rw [List.all_eq_true] at h
  have h1 := h i (List.mem_range.2 hi)
  rw [ho] at h1
  simp only [Bool.and_eq_true] at h1
  obtain ⟨⟨h2, h3⟩, h4⟩ := h1
  refine ⟨Option.isNone_iff_eq_none.1 h2, ?_, fun e he => ?_⟩
  · cases hd : o.dst with
    | none => rw [hd] at h3; cases h3
    | some s =>
      rw [hd] at h3
      simp only [Bool.and_eq_true, decide_eq_true_eq, Bool.not_eq_true'] at h3
      refine ⟨s, rfl, h3.1.1, fun hm => ?_, fun j o' hj ho' => ?_⟩
      · have := h3.1.2
        rw [List.contains_iff_mem.2 hm] at this
        cases this
      · have := List.all_eq_true.1 h3.2 j (List.mem_range.2 hj)
        rw [ho'] at this
        exact of_decide_eq_true this
  · have := Array.all_eq_true_iff_forall_mem.1 h4 e he
    exact of_decide_eq_true this
theorem eval_put_same (a : Act) (s : Tmp) (v : Value) (h : s < a.tmps.size) : (a.put (some s) v).eval (.tmp s) = v := by
  simp [Act.put, Act.eval, Array.getD, h]
theorem eval_put_other (a : Act) (s t : Tmp) (v : Value) (h : s ≠ t) : (a.put (some s) v).eval (.tmp t) = a.eval (.tmp t) := by
  simp only [Act.put, Act.eval, Array.getD_eq_getD_getElem?]
  rw [Array.getElem?_setIfInBounds_ne h]
/-- THE REGION. -/
theorem wp_region_typed {id : Nat} {Q : Exit → Act → World → Prop} {a : Act} {W : World} (N : Nat) (base : List (Nat × Value)) (V : Nat → Value → World → Prop)
    (hm : P.follows .mixedOrders = true) (hB : typedB ops (base.map (·.1)) N = true) (hN : a.tmps.size = N) (hb : ∀ x ∈ base, a.eval (.tmp x.1) = x.2)
    (hV : ∀ i v w w', V i v w → Chg Noth w w' → V i v w')
    (hs : ∀ i o, ops[i]? = some o → ∀ (ev : Operand → Value) w, Chg Noth W w → (∀ c, ev (.const c) = c) → (∀ f, ev (.func f) = .func (.func f) #[] #[]) → (∀ x ∈ base, ev (.tmp x.1) = x.2) →
      (∀ j oj s, ops[j]? = some oj → oj.dst = some s → (∃ e ∈ o.after, e.on = j ∧ Region.binds .any e = true) → V j (ev (.tmp s)) w) → opOk P (V i) w ((execOp ev o).run P w))
    (hQ : ∀ a' w, Chg Noth W w → a'.defers = a.defers → a'.tmps.size = N → (∀ x ∈ base, a'.eval (.tmp x.1) = x.2) → (∀ i o s, ops[i]? = some o → o.dst = some s → V i (a'.eval (.tmp s)) w) → Q .normal a' w) :
    (Code.region id ops true).wp P Q a W := by
  refine wp_region_any hm ?_
  let I : Array Bool → Act → World → Prop := fun listed a' w => Chg Noth W w ∧ a'.tmps.size = N ∧ a'.defers = a.defers ∧ (∀ x ∈ base, a'.eval (.tmp x.1) = x.2) ∧ listed.size = ops.size ∧
    ∀ j o s, ops[j]? = some o → o.dst = some s → listed.getD j true = true → V j (a'.eval (.tmp s)) w
  refine wpAny_inv I ?_ ?_ _ _ _ _ ?_ ⟨chg_drew (Chg.refl _ _), hN, rfl, hb, by simp, fun j o s ho _ hl => ?_⟩
  · rintro listed a1 w i ⟨hc, hn, hd, hbs, hsz, hl⟩ hr
    obtain ⟨hun, o, ho, haf⟩ := mem_ready.1 hr
    obtain ⟨hg, ⟨s, hds, hsN, hsb, hne⟩, hlt⟩ := typedB_spec hB ho
    have hi := (Array.getElem?_eq_some_iff.1 ho).1
    unfold wpOp
    rw [ho]
    have hw : Region.wanted o (yielded ops a1.tmps) = true := by unfold Region.wanted; rw [hg]
    simp only [hw, if_true]
    left
    have hop := hs i o ho a1.eval w hc (fun _ => rfl) (fun _ => rfl) hbs (fun j oj sj hoj hdj ⟨e, he, hej, hbi⟩ => hl j oj sj hoj hdj (by
      have := haf e he hbi
      rw [hej] at this
      have hj := (Array.getElem?_eq_some_iff.1 hoj).1
      simp [hsz, hj] at this ⊢
      exact this))
    have key : ∀ v w', Chg Noth w w' → V i v w' → I (listed.setIfInBounds i true) (a1.put (some s) v) w' := by
      intro v w' hc' hv
      refine ⟨hc.trans hc' (fun _ _ h => h), by simp [Act.put, hn], hd, fun x hx => ?_, by simp [hsz], fun j oj sj hoj hdj hlj => ?_⟩
      · rw [eval_put_other _ _ _ _ (fun e => hsb (by rw [e]; exact List.mem_map.2 ⟨x, hx, rfl⟩))]
        exact hbs x hx
      · by_cases hji : j = i
        · subst hji
          rw [ho] at hoj
          obtain rfl := Option.some.inj hoj
          rw [hds] at hdj
          obtain rfl := Option.some.inj hdj
          rw [eval_put_same _ _ _ (by rw [hn]; exact hsN)]
          exact hv
        · have hss : s ≠ sj := by
            intro e
            subst e
            rcases Nat.lt_or_gt_of_ne hji with h | h
            · exact hne j oj h hoj hdj
            · obtain ⟨_, ⟨s', hds', _, _, hne'⟩, _⟩ := typedB_spec hB hoj
              rw [hdj] at hds'
              obtain rfl := Option.some.inj hds'
              exact hne' i o h ho hds
          rw [eval_put_other _ _ _ _ hss]
          refine hV j _ _ _ (hl j oj sj hoj hdj ?_) hc'
          have hj := (Array.getElem?_eq_some_iff.1 hoj).1
          simp [hsz, hj, Ne.symm hji] at hlj ⊢
          exact hlj
    unfold Oper.wp
    generalize (execOp a1.eval o).run P w = r at hop
    cases r with
    | ok x w' =>
      cases x with
      | value v =>
        simp only [Oper.upon, hds]
        exact key v w' hop.1 hop.2
      | enter f args =>
        obtain ⟨rfl, hcl⟩ := hop
        simp only [Oper.upon, hds]
        refine hcl.mono ?_
        rintro e w'' ⟨v, rfl, h1, h2⟩
        exact key v w'' h1 h2
      | _ => exact hop.elim
    | halt x w' => exact hop.elim
  · rintro listed a1 w ⟨hc, hn, hd, hbs, hsz, hl⟩ hr
    have hall : ∀ (m i : Nat), i ≤ m → i < ops.size → listed.getD i true = true := by
      intro m
      induction m with
      | zero =>
        intro i him hi
        obtain rfl : i = 0 := by omega
        cases hx : listed.getD 0 true with
        | true => rfl
        | false =>
          have ho : ops[0]? = some ops[0] := Array.getElem?_eq_getElem hi
          have hin : (0 : Nat) ∈ Region.ready .any ops listed := mem_ready.2 ⟨hx, _, ho, fun e he _ => absurd ((typedB_spec hB ho).2.2 e he) (by omega)⟩
          rw [hr] at hin
          cases hin
      | succ m ih =>
        intro i him hi
        rcases Nat.lt_or_ge m i with h | h
        · obtain rfl : i = m + 1 := by omega
          cases hx : listed.getD (m + 1) true with
          | true => rfl
          | false =>
            have ho : ops[m + 1]? = some ops[m + 1] := Array.getElem?_eq_getElem hi
            have hin : (m + 1 : Nat) ∈ Region.ready .any ops listed := mem_ready.2 ⟨hx, _, ho, fun e he _ => by
              have hlt := (typedB_spec hB ho).2.2 e he
              have h1 := ih e.on (by omega) (by omega)
              have : e.on < listed.size := by omega
              simp [this] at h1 ⊢
              exact h1⟩
            rw [hr] at hin
            cases hin
        · exact ih i h hi
    exact hQ a1 w hc hd hn hbs fun i o s ho hds => hl i o s ho hds (hall i i (Nat.le_refl _) (Array.getElem?_eq_some_iff.1 ho).1)
  · simp
  · have hj := (Array.getElem?_eq_some_iff.1 ho).1
    simp [hj] at hl
/-- Does the operation wait for number j? -/
def edgeB (o : Oper) (j : Nat) : Bool := o.after.any fun e => e.on == j && Region.binds .any e
theorem edgeB_spec {o : Oper} {j : Nat} (h : edgeB o j = true) : ∃ e ∈ o.after, e.on = j ∧ Region.binds .any e = true := by
  unfold edgeB at h
  obtain ⟨i, hi, h1⟩ := Array.any_eq_true.1 h
  simp only [Bool.and_eq_true, beq_iff_eq] at h1
  exact ⟨o.after[i], Array.getElem_mem hi, h1⟩
def dstOf (ops : Array Oper) (j : Nat) : Option Tmp := (ops[j]?).bind (·.dst)
/-- The operations one behind the other, each in every world that has grown. -/
def StepsOk (P : Program) (ops : Array Oper) (V : Nat → Value → World → Prop) (W : World) (base : List (Nat × Value)) : Nat → List Oper → Prop
  | _, [] => True
  | k, o :: l => (∀ (ev : Operand → Value) w, Chg Noth W w → (∀ c, ev (.const c) = c) → (∀ f, ev (.func f) = .func (.func f) #[] #[]) → (∀ x ∈ base, ev (.tmp x.1) = x.2) →
      (∀ j s, edgeB o j = true → dstOf ops j = some s → V j (ev (.tmp s)) w) → opOk P (V k) w ((execOp ev o).run P w)) ∧ StepsOk P ops V W base (k + 1) l
theorem stepsOk_at {V : Nat → Value → World → Prop} {W : World} {base : List (Nat × Value)} : ∀ (l : List Oper) (k i : Nat) (o : Oper), StepsOk P ops V W base k l → l[i]? = some o →
    ∀ (ev : Operand → Value) w, Chg Noth W w → (∀ c, ev (.const c) = c) → (∀ f, ev (.func f) = .func (.func f) #[] #[]) → (∀ x ∈ base, ev (.tmp x.1) = x.2) →
      (∀ j s, edgeB o j = true → dstOf ops j = some s → V j (ev (.tmp s)) w) → opOk P (V (k + i)) w ((execOp ev o).run P w)
  | [], k, i, o, _, h => by simp at h
  | o' :: l, k, 0, o, hs, h => by
    simp only [List.getElem?_cons_zero, Option.some.injEq] at h
    subst h
    exact hs.1
  | o' :: l, k, i + 1, o, hs, h => by
    rw [show k + (i + 1) = (k + 1) + i by omega]
    exact stepsOk_at l (k + 1) i o hs.2 (by simpa using h)
theorem wp_region_steps {id : Nat} {Q : Exit → Act → World → Prop} {a : Act} {W : World} {l : List Oper} (N : Nat) (base : List (Nat × Value)) (V : Nat → Value → World → Prop)
    (hm : P.follows .mixedOrders = true) (hB : typedB l.toArray (base.map (·.1)) N = true) (hN : a.tmps.size = N) (hb : ∀ x ∈ base, a.eval (.tmp x.1) = x.2)
    (hV : ∀ i v w w', V i v w → Chg Noth w w' → V i v w')
    (hs : StepsOk P l.toArray V W base 0 l)
    (hQ : ∀ a' w, Chg Noth W w → a'.defers = a.defers → a'.tmps.size = N → (∀ x ∈ base, a'.eval (.tmp x.1) = x.2) → (∀ i s, dstOf l.toArray i = some s → V i (a'.eval (.tmp s)) w) → Q .normal a' w) :
    (Code.region id l.toArray true).wp P Q a W := by
  refine wp_region_typed N base V hm hB hN hb hV ?_ ?_
  · intro i o ho ev w h1 h2 h3 h4 h5
    have := stepsOk_at l 0 i o hs (by simpa using ho) ev w h1 h2 h3 h4 (fun j s he hd => by
      unfold dstOf at hd
      cases ho' : l.toArray[j]? with
      | none => rw [ho'] at hd; cases hd
      | some oj =>
        rw [ho'] at hd
        exact h5 j oj s ho' hd (edgeB_spec he))
    rwa [Nat.zero_add] at this
  · intro a' w h1 h2 h3 h4 h5
    refine hQ a' w h1 h2 h3 h4 fun i s hd => ?_
    unfold dstOf at hd
    cases ho' : l.toArray[i]? with
    | none => rw [ho'] at hd; cases hd
    | some oj =>
      rw [ho'] at hd
      exact h5 i oj s ho' hd
end
end Go.Ear
