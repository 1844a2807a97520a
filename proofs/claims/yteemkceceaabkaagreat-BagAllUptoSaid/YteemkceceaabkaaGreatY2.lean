/- The iterator that All answers: it hands over copies, one behind the other. -/
import Derived.Test.YteemkceceaabkaaGreatW
import Derived.Test.YteemkceceaabkaaGreatX
import Derived.Shelf.Abstract
import Derived.Shelf.RegionOpen
import Derived.OwnWalkIn
import Derived.TacticsInMore
import Derived.LoopNIn
import Derived.LoopIn
namespace Go.Proofs.YteemkceceaabkaaGreat
open Go.RowKit Go.Ear Go.Shelf
attribute [local go_sem] Oper.semAt_some
set_option maxHeartbeats 1000000
set_option maxRecDepth 40000

/-- What is handed over: the place, the datagram, its bytes' slice. -/
structure Got where
  i : Nat
  g : Gm
  A : Option Addr
  c : Nat
abbrev Got.v (x : Got) : Value := .slice x.A x.g.data.length x.c
def Got.enc (x : Got) : Array Value := #[i64 x.i, gv x.g.id x.g.fr x.g.to x.v]
/-- What is known of an element when it is handed over. -/
def Gave (n0 : Nat) (L : List Gm) (pre : List Got) (x : Got) (W : World) : Prop := x.i = pre.length ∧ L[x.i]? = some x.g ∧ W.ownsRow n0 5 1 x.v x.g.data.length (bv x.g.data)
/-- Two have no block in common. -/
def Farof (y x : Got) : Prop := ∀ k, y.v.ownBlock = some k → x.v.ownBlock ≠ some k
/-- All have come. -/
def Came (n0 : Nat) (L : List Gm) (xs : List Got) (W : World) : Prop := xs.map Got.g = L ∧ (∀ x ∈ xs, W.ownsRow n0 5 1 x.v x.g.data.length (bv x.g.data)) ∧ xs.Pairwise Farof
/-- What a round keeps: blocks below n0 but M's; bytes. -/
structure Kpp (n0 : Nat) (M : Nat → Prop) (A B : World) : Prop where
  size : A.heap.size ≤ B.heap.size
  keep : ∀ k, k < A.heap.size → ¬ M k → (k < n0 ∨ ∃ cs fr, A.heap[k]? = some (.cells cs 5 fr)) → B.heap[k]? = A.heap[k]?
theorem Kpp.trans {n0 : Nat} {M : Nat → Prop} {A B C : World} (h : Kpp n0 M A B) (k : Kpp n0 M B C) : Kpp n0 M A C :=
  ⟨Nat.le_trans h.size k.size, fun i hi hM hc => by
    have e := h.keep i hi hM hc
    refine (k.keep i (Nat.lt_of_lt_of_le hi h.size) hM ?_).trans e
    rcases hc with hc | ⟨cs, fr, hc⟩
    · exact .inl hc
    · exact .inr ⟨cs, fr, e.trans hc⟩⟩
theorem Kpp.of_chg {n0 : Nat} {M F : Nat → Prop} {A B : World} (h : Chg F A B) (hF : ∀ k, F k → M k ∨ (n0 ≤ k ∧ ∀ cs fr, A.heap[k]? ≠ some (.cells cs 5 fr))) : Kpp n0 M A B :=
  ⟨h.size, fun k hk hM hc => h.block k hk fun hf => by
    rcases hF k hf with h1 | ⟨h1, h2⟩
    · exact hM h1
    · rcases hc with hc | ⟨cs, fr, hc⟩
      · omega
      · exact h2 cs fr hc⟩
theorem Kpp.put {n0 : Nat} {M : Nat → Prop} {W : World} {l : Nat} {o o' : Obj} (hl : n0 ≤ l) (ho : W.heap[l]? = some o) (hc : o.isCells = false) : Kpp n0 M W (W.putObj l o') := by
  have hg := grownBy_putObj' W l o'
  refine ⟨hg.size, fun k hk _ hcs => hg.block k hk fun e => ?_⟩
  cases e
  rcases hcs with h | ⟨cs, fr, h⟩
  · omega
  · rw [ho] at h
    cases h
    cases hc
theorem own_kpp {n0 : Nat} {M : Nat → Prop} {A B : World} {base n sz : Nat} {v : Value} {xs : List Value} (h : A.ownsRow base 5 sz v n xs) (hk : Kpp n0 M A B) (hM : ∀ k, v.ownBlock = some k → ¬ M k) : B.ownsRow base 5 sz v n xs := by
  refine own_kept h fun k hv => hk.keep k (h.lt k hv).2 (hM k hv) (.inr ?_)
  rcases h.2 with ⟨rfl, _⟩ | ⟨g, cap, cur, rfl, _, hg, _⟩
  · simp [Value.ownBlock] at hv
  · simp [Value.ownBlock] at hv
    subst hv
    exact ⟨_, _, hg⟩
theorem own_kpp_lt {n0 : Nat} {M : Nat → Prop} {A B : World} {base n sz e : Nat} {v : Value} {xs : List Value} (h : A.ownsRow base e sz v n xs) (hk : Kpp n0 M A B) (hM : ∀ k, v.ownBlock = some k → ¬ M k ∧ k < n0) : B.ownsRow base e sz v n xs :=
  own_kept h fun k hv => hk.keep k (h.lt k hv).2 (hM k hv).1 (.inl (hM k hv).2)

/-- What the iterator reads. -/
structure It (Bs base n0 : Nat) (M : Nat → Prop) (gs : Value) (vs : List Value) (L : List Gm) (W : World) : Prop where
  gl : GL W base gs vs L
  box : ∃ fr, W.heap[Bs]? = some (.cells #[gs] 58 fr)
  bs : Bs < n0 ∧ ¬ M Bs
  blk : ∀ k, gs.ownBlock = some k ∨ (∃ v ∈ vs, v.ownBlock = some k) → k < n0 ∧ ¬ M k
theorem It.keep {Bs base n0 : Nat} {M : Nat → Prop} {gs : Value} {vs : List Value} {L : List Gm} {A B : World} (h : It Bs base n0 M gs vs L A) (hk : Kpp n0 M A B) : It Bs base n0 M gs vs L B := by
  obtain ⟨fr, hb⟩ := h.box
  exact ⟨⟨own_kpp_lt h.gl.own hk fun k hv => (h.blk k (.inl hv)).symm, h.gl.len, fun i g v hg hv => own_kpp_lt (h.gl.data i g v hg hv) hk fun k hv' => (h.blk k (.inr ⟨v, List.mem_of_getElem? hv, hv'⟩)).symm⟩,
    ⟨fr, (hk.keep Bs (Array.getElem?_eq_some_iff.1 hb).1 h.bs.2 (.inl h.bs.1)).trans hb⟩, h.bs, h.blk⟩
theorem It.chg {Bs base n0 : Nat} {M : Nat → Prop} {gs : Value} {vs : List Value} {L : List Gm} {A B : World} (h : It Bs base n0 M gs vs L A) (hk : Chg Noth A B) : It Bs base n0 M gs vs L B := h.keep (Kpp.of_chg hk fun _ e => e.elim)
theorem chg_grown {A B : World} (h : Chg Noth A B) : A.grownBy B none := ⟨h.os, h.tape, h.output, h.size, fun k hk _ => h.block k hk (fun e => e)⟩
theorem abides_chg {β : Type} {b : Nat} {J : β → World → Prop} (h : AbidesFrom b J) {s : β} {A B : World} (hs : J s A) (hc : Chg Noth A B) : J s B := h s A B none hs (chg_grown hc) fun r e => by cases e

theorem all1_in (n : Nat) (hn : 1 ≤ n) (l Bs base n0 : Nat) (M : Nat → Prop) (gs : Value) (vs : List Value) (L : List Gm) (hsm : ∀ g ∈ L, g.data.length ≤ 1024) (hL : L.length ≤ 65536) (hMl : ∀ k, M k → k < n0)
    (J Jx : List Got → World → Prop) (b : Nat) (hJ : AbidesFrom b J)
    (hY : ∀ pre x W, J pre W → Gave n0 L pre x W → pre.length < L.length → YieldAt Fence.wide (n - 1) Tryz.prog l x.enc W fun e W' =>
      (e = .returned (.bool true) ∧ J (pre ++ [x]) W' ∧ Kpp n0 M W W') ∨ (e = .returned (.bool false) ∧ Jx (pre ++ [x]) W'))
    (W : World) (hW : n0 ≤ W.heap.size) (hI : It Bs base n0 M gs vs L W) (h0 : J [] W) :
    CallsIn Fence.wide n Tryz.prog 136 #[.func (.yield l) #[] #[], .pointer (some ⟨Bs, 0, none⟩)] W fun e W' => (∃ v, e = .returned v) ∧
      ((∃ xs, Came n0 L xs W' ∧ J xs W') ∨ (∃ pre, pre.map Got.g <+: L ∧ Jx pre W')) := by
  have hown := hI.gl.own
  obtain ⟨A, cap, rfl⟩ := own_shape hown
  obtain ⟨m, hm⟩ : ∃ m, m = L.length := ⟨_, rfl⟩
  obtain ⟨fr, hb⟩ := hI.box
  have c0 : W.cell? ⟨Bs, 0, none⟩ = some (.slice A m cap) := by rw [cell_of_row _ _ 0 _ _ _ hb, hm]; rfl
  rw [← hm] at hI hown hL hY
  have HM := Lib.hid hm
  clear hm hb
  refine callsIn_of_wp Tryz.func136 rfl trivial ?_
  simp only [Tryz.ntmps136, List.size_toArray, List.length_cons, List.length_nil, Nat.reduceAdd, Nat.reduceSub, Array.replicate_succ, Array.replicate_zero, List.push_toArray, List.append_toArray, List.nil_append, List.cons_append]
  gi_wp2
  gi_loopw [7] (fun i wr => ∃ (k : Nat) (pre : List Got), k ≤ m ∧ i = .int .i64 k ∧ J pre wr ∧ n0 ≤ wr.heap.size ∧ It Bs base n0 M (.slice A m cap) vs L wr ∧ pre.map Got.g = L.take k ∧ (∀ x ∈ pre, wr.ownsRow n0 5 1 x.v x.g.data.length (bv x.g.data)) ∧ pre.Pairwise Farof)
    (fun i _ => m - (intOf i).toNat)
  case atStart => exact ⟨0, [], Nat.zero_le _, rfl, h0, hW, hI, rfl, fun x hx => by simp at hx, List.Pairwise.nil⟩
  case round =>
    obtain ⟨k, pre, hk, rfl, hJs, hsz, hit, hpre, hrows, hfar⟩ := hrel
    have HF := Lib.hid hfar
    clear hfar
    have HP := Lib.hid hpre
    clear hpre
    have HR := Lib.hid hrows
    clear hrows
    by_cases hlt : k < m
    · have hkl : k < L.length := by have := HM.out; omega
      obtain ⟨x, hx⟩ : ∃ x, L[k]? = some x := ⟨_, List.getElem?_eq_getElem hkl⟩
      have hv : vs[k]? = some (vs[k]'(by rw [hit.gl.len]; exact hkl)) := List.getElem?_eq_getElem _
      generalize vs[k]'(by rw [hit.gl.len]; exact hkl) = v at hv
      have hd := hit.gl.data k x v hx hv
      have hsm' : x.data.length ≤ 140737488351232 := by have := hsm x (List.mem_of_getElem? hx); omega
      obtain ⟨D, dc, rfl⟩ := own_shape hd
      have hcop := copied_any x.id x.fr x.to D x.data.length dc x.data
      have how := hit.gl.own
      rw [← HM.out] at how
      obtain ⟨ga, cap', e1, _, hga⟩ := how.form (by omega)
      cases e1
      have i2 : Old ga wr := ⟨hga⟩
      have how2 : wr.ownsRow base 110 4 (.slice (some ⟨ga, 0, none⟩) L.length cap) L.length (flat L vs) := by rw [← HM.out]; exact how
      obtain ⟨a0, a1, a2, a3⟩ := gram_cells how2 hit.gl.len hx hv
      have hs := SL.of_own hd
      obtain ⟨fr, hb⟩ := hit.box
      have HX := Lib.hid hx
      clear hx hv how how2 hd hb
      gi_wp2_with (refine ⟨trivial, ?_⟩; gi_at_call 125; refine (callsIn_wide.2 (hcop _ (hs.grow (by repeat (with_reducible first | exact Chg.refl _ _ | refine chg_m ?_ _ | refine chg_g ?_ _ | refine chg_alloc ?_ _ | refine chg_drew ?_ | refine chg_drewN ?_ _ | refine chg_set ?_ _ _ _))) hsm')).mono ?_; rintro e w' ⟨A2, c2', rfl, ho, g3, rfl⟩)
      have hC : Chg Noth wr g3.w := by repeat (with_reducible first | exact Chg.refl _ _ | refine chg_m ?_ _ | refine chg_g ?_ _ | refine chg_alloc ?_ _ | refine chg_drew ?_ | refine chg_drewN ?_ _ | refine chg_set ?_ _ _ _)
      have hCs := hC.size
      have hJ3 := abides_chg hJ hJs hC
      have hlen : pre.length = k := by have := congrArg List.length HP.out; simp at this; omega
      have hrow := own_base (base' := n0) ho (by simp; omega)
      obtain ⟨fn, tmps, assign, body, hy, hR⟩ := hY pre ⟨k, x, A2, c2'⟩ g3.w hJ3 ⟨hlen.symm, HX.out, hrow⟩ (by omega)
      have hFar : (pre ++ [(⟨k, x, A2, c2'⟩ : Got)]).Pairwise Farof := List.pairwise_append.2 ⟨HF.out, List.pairwise_singleton _ _, fun y hy z hz q hq hq' => by
        cases List.mem_singleton.1 hz
        have h1 := ((HR.out y hy).lt q hq).2
        have h2 := (ho.lt q hq').1
        simp at h2
        omega⟩
      have HL := Lib.hid hlen
      clear hlen
      dsimp only [Got.enc, Got.v] at hy
      have hit3 := hit.chg hC
      rw [hy]
      gi_wp2
      refine hR.mono ?_
      rintro e W3 (⟨rfl, hJ4, hk4⟩ | ⟨rfl, hJx⟩)
      · gi_wp2
        go_roundw
        case rel =>
          refine ⟨k + 1, pre ++ [⟨k, x, A2, c2'⟩], by omega, by go_num, hJ4, by have := hk4.size; omega, hit3.keep hk4, by rw [List.map_append, HP.out, List.take_add_one, HX.out]; rfl, fun y hy => ?_, hFar⟩
          rcases List.mem_append.1 hy with hy | hy
          · have ho1 := HR.out y hy
            exact own_kpp (own_chg ho1 hC fun _ _ e => e) hk4 fun q hq hM => by have := (ho1.lt q hq).1; have := hMl q hM; omega
          · cases List.mem_singleton.1 hy
            exact own_kpp hrow hk4 fun q hq hM => by have := (hrow.lt q hq).1; have := hMl q hM; omega
        case measure => simp [intOf]; omega
      · gi_wp2
        refine bodyPost_ret (results_none rfl _ _ _) rfl ?_
        refine ⟨⟨_, rfl⟩, .inr ⟨pre ++ [⟨k, x, A2, c2'⟩], ?_, hJx⟩⟩
        rw [List.map_append, HP.out, show L.take k ++ List.map Got.g [⟨k, x, A2, c2'⟩] = L.take (k + 1) from by rw [List.take_add_one, HX.out]; rfl]
        exact List.take_prefix _ _
    · obtain rfl : k = m := by omega
      gi_wp2
      go_end0
      exact ⟨⟨_, rfl⟩, .inl ⟨pre, ⟨by rw [HP.out, HM.out, List.take_length], HR.out, HF.out⟩, hJs⟩⟩

/-- The iterator's word. -/
theorem all1_given (n : Nat) (hn : 1 ≤ n) (Bs base : Nat) (M : Nat → Prop) (gs : Value) (vs : List Value) (L : List Gm) (hsm : ∀ g ∈ L, g.data.length ≤ 1024) (hL : L.length ≤ 65536) (w : World) (hMl : ∀ k, M k → k < w.heap.size)
    (hI : It Bs base w.heap.size M gs vs L w) :
    SeqGiven Fence.wide n Tryz.prog 136 #[.pointer (some ⟨Bs, 0, none⟩)] Got.enc (Kpp w.heap.size M) (Gave w.heap.size L) (Came w.heap.size L) (fun pre => pre.map Got.g <+: L) L.length w := fun l J Jx W hW hJ _ hY h0 =>
  all1_in n hn l Bs base w.heap.size M gs vs L hsm hL hMl J Jx W.heap.size hJ hY W hW.size (hI.chg (Chg.of_below hW)) h0
theorem gave_own (n0 : Nat) (L : List Gm) (b : Nat) (pre : List Got) (x : Got) : OwnFrom b (fun (_ : Unit) W => Gave n0 L pre x W) := fun _ _ _ _ hs hg hr =>
  ⟨hs.1, hs.2.1, own_kept hs.2.2 fun k hk => hg.block k (hs.2.2.lt k hk).2 fun e => by
    obtain ⟨_, o, ho, hc⟩ := hr k e.symm
    rcases hs.2.2.2 with ⟨e1, _⟩ | ⟨g, cap, cur, e1, _, hb, _⟩
    · rw [e1] at hk; simp [Value.ownBlock] at hk
    · rw [e1] at hk
      simp [Value.ownBlock] at hk
      subst hk
      rw [hb] at ho
      cases ho
      cases hc⟩
theorem came_own (n0 : Nat) (L : List Gm) (b : Nat) : OwnFrom b (Came n0 L) := fun xs _ _ _ hs hg hr =>
  ⟨hs.1, fun x hx => own_kept (hs.2.1 x hx) fun k hk => hg.block k ((hs.2.1 x hx).lt k hk).2 fun e => (by
    obtain ⟨_, o, ho, hc⟩ := hr k e.symm
    rcases (hs.2.1 x hx).2 with ⟨e1, _⟩ | ⟨g, cap, cur, e1, _, hb, _⟩
    · rw [e1] at hk; simp [Value.ownBlock] at hk
    · rw [e1] at hk
      simp [Value.ownBlock] at hk
      subst hk
      rw [hb] at ho
      cases ho
      cases hc), hs.2.2⟩
end Go.Proofs.YteemkceceaabkaaGreat
