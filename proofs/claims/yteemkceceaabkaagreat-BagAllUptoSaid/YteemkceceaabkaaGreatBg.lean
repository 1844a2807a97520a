/- The book of lists: Gram: datagrams. -/
import Derived.Test.YteemkceceaabkaaGreatBw
import Derived.Test.YteemkceceaabkaaGreatR
namespace Go.Proofs.YteemkceceaabkaaGreat
open Go.RowKit Go.Ear
set_option maxHeartbeats 1000000
set_option maxRecDepth 40000

theorem flat_good : ∀ (l : List Gm) (vs : List Value), (∀ v ∈ vs, ∃ A n c, v = .slice A n c) → goodGrams (flat l vs)
  | [], vs, _ => ⟨[], by simp [flat]⟩
  | x :: l, [], _ => ⟨[], by simp [flat]⟩
  | x :: l, v :: vs, h => by
    obtain ⟨A, n, c, rfl⟩ := h v List.mem_cons_self
    obtain ⟨q, hq⟩ := flat_good l vs fun u hu => h u (List.mem_cons_of_mem _ hu)
    refine ⟨(x.id, x.fr, x.to, A, n, c) :: q, ?_⟩
    simp only [flat, List.zip_cons_cons, List.flatMap_cons] at hq ⊢
    rw [hq]
    rfl

/-- Are the blocks of a list of datagrams and of their bytes. -/
def GB (gs : Value) (vs : List Value) (x : Nat) : Prop := gs.ownBlock = some x ∨ ∃ v ∈ vs, v.ownBlock = some x
theorem GL.gb_lt {w : World} {base : Nat} {gs : Value} {vs : List Value} {l : List Gm} (h : GL w base gs vs l) {x : Nat} (hx : GB gs vs x) : base ≤ x ∧ x < w.heap.size := h.blk x hx

/-- What Gram leaves. -/
def GramTo (p : Nat) (C F : Nat → Prop) (gs : Value) (vs : List Value) (w : World) : Ending → World → Prop := fun e w' =>
  e = .returned (.tuple #[]) ∧ ∃ (m : Muts C w) (C' F' : Nat → Prop), w' = m.w ∧ BookIs KT 53 m.w p C' F' ∧
      (∀ k, C' k → C k ∨ w.heap.size ≤ k) ∧ ∀ k, F' k → F k ∨ GB gs vs k ∨ w.heap.size ≤ k

theorem bookGram_any (p : Nat) (C F : Nat → Prop) (base : Nat) (A : Option Addr) (c : Nat) (vs : List Value) (l : List Gm) (n : Nat) (hn : n = l.length) (w : World) (hB : BookIs KT 53 w p C F) (hG : GL w base (.slice A n c) vs l)
    (hap : vs.Pairwise fun y x => ∀ k, y.ownBlock = some k → x.ownBlock ≠ some k) (hne : ∀ x, GB (.slice A n c) vs x → ¬ F x) (hsm : ∀ g ∈ l, g.data.length ≤ 1024) (hL : n ≤ 65536) :
    Calls Tryz.prog 95 #[.pointer (some ⟨p, 0, none⟩), .slice A n c] w (GramTo p C F (.slice A n c) vs w) := by
  have HN := Lib.hid hn
  have hCF := hB.core
  have hown := hG.own
  have hgsd : ∀ x, (Value.slice A n c).ownBlock = some x → ∀ v ∈ vs, v.ownBlock ≠ some x := fun x hx v hv e => by
    obtain ⟨j, hj⟩ := List.mem_iff_getElem?.1 hv
    have hl : j < l.length := by have := (List.getElem?_eq_some_iff.1 hj).1; have := hG.len; omega
    exact own_own hown (hG.data j _ v (List.getElem?_eq_getElem hl) hj) (by decide) x hx e
  clear hn
  go_enter Tryz.func95, Tryz.ntmps95
  go_wp2
  go_loopw [4] (fun i wr => ∃ (k : Nat) (m : Muts C w) (C' F' : Nat → Prop), k ≤ n ∧ i = .int .i64 k ∧ wr = m.w ∧ BookIs KT 53 m.w p C' F' ∧ (∀ x, C' x → C x ∨ w.heap.size ≤ x) ∧ ∀ x, F' x → F x ∨ (∃ v ∈ vs.take k, v.ownBlock = some x) ∨ w.heap.size ≤ x) (fun i _ => n - (intOf i).toNat)
  case atStart => exact ⟨0, ⟨w, Chg.refl _ _⟩, C, F, Nat.zero_le _, rfl, rfl, hB, fun _ h => .inl h, fun _ h => .inl h⟩
  case round =>
    obtain ⟨k, m, C', F', hk, rfl, rfl, hB', hC', hF'⟩ := hrel
    have hmC := m.h
    have hG' : GL m.w base (.slice A n c) vs l := hG.chg hmC fun x _ hx hcx => hne x hx (hCF x hcx)
    by_cases hlt : k < n
    · have hkl : k < l.length := by have := HN.out; omega
      obtain ⟨x, hx⟩ : ∃ x, l[k]? = some x := ⟨_, List.getElem?_eq_getElem hkl⟩
      have hv : vs[k]? = some (vs[k]'(by rw [hG.len]; exact hkl)) := List.getElem?_eq_getElem _
      generalize vs[k]'(by rw [hG.len]; exact hkl) = v at hv
      have hd := hG'.data k x v hx hv
      have hd0 := hG.data k x v hx hv
      have hs := hsm x (List.mem_of_getElem? hx)
      obtain ⟨D, dc, rfl⟩ := own_shape hd
      have ho' : m.w.ownsRow base 110 4 (.slice A l.length c) l.length (flat l vs) := by have := hG'.own; rwa [← HN.out] at this ⊢
      obtain ⟨ga, cap', e1, _, hga⟩ := ho'.form (by omega)
      cases e1
      obtain ⟨a0, a1, a2, a3⟩ := gram_cells ho' hG'.len hx hv
      have i2 : Old ga m.w := ⟨hga⟩
      have hnv : ∀ q, (Value.slice D x.data.length dc).ownBlock = some q → ¬ F' q := fun q hq hf => by
        rcases hF' q hf with h | ⟨u, hu, h⟩ | h
        · exact hne q (.inr ⟨_, List.mem_of_getElem? hv, hq⟩) h
        · obtain ⟨j, hj⟩ := List.mem_iff_getElem?.1 hu
          rw [List.getElem?_take] at hj
          split at hj
          · rename_i hjk
            have hj1 := (List.getElem?_eq_some_iff.1 hj)
            have hk1 := (List.getElem?_eq_some_iff.1 hv)
            have := List.pairwise_iff_getElem.1 hap j k hj1.1 hk1.1 hjk q (by rw [hj1.2]; exact h)
            rw [hk1.2] at this
            exact this hq
          · cases hj
        · have := (hd0.lt q hq).2
          omega
      have hcall := fun h2 h3 => bookBytes_any p C' F' D x.data.length dc (bv x.data) m.w hB' (own_base hd (Nat.zero_le _)) h2 hnv h3
      have HX := Lib.hid hx
      have HV := Lib.hid hv
      clear hx hv hd hd0 ho' hB'
      go_wp2_with (go_at_call 84; refine (hcall ⟨x.data, rfl⟩ (by omega)).mono ?_; rintro e w2 ⟨rfl, m2, C2, F2, rfl, hB2, hC2, hF2⟩)
      have h02 : Chg C w m2.w := hmC.trans m2.h fun q hq h => by
        rcases hC' q h with h | h
        · exact h
        · omega
      have hs0 := hmC.size
      have hrel2 : ∃ (m : Muts C w) (C' F' : Nat → Prop), m2.w = m.w ∧ BookIs KT 53 m.w p C' F' ∧ (∀ x, C' x → C x ∨ w.heap.size ≤ x) ∧ ∀ x, F' x → F x ∨ (∃ v ∈ vs.take (k + 1), v.ownBlock = some x) ∨ w.heap.size ≤ x := by
        refine ⟨⟨m2.w, h02⟩, C2, F2, rfl, hB2, fun q hq => ?_, fun q hq => ?_⟩
        · rcases hC2 q hq with h | h
          · exact hC' q h
          · exact .inr (by omega)
        · rw [List.take_add_one, HV.out]
          rcases hF2 q hq with h | h | h
          · rcases hF' q h with h | ⟨u, hu, h⟩ | h
            · exact .inl h
            · exact .inr (.inl ⟨u, List.mem_append_left _ hu, h⟩)
            · exact .inr (.inr h)
          · exact .inr (.inl ⟨_, List.mem_append_right _ (by simp), h⟩)
          · exact .inr (.inr (by omega))
      have HR := Lib.hid hrel2
      clear hrel2 hB2 hC2 hF2 hC' hF' hG'
      go_wp2
      go_roundw
      case rel =>
        obtain ⟨m3, C3, F3, e3, h3⟩ := HR.out
        exact ⟨k + 1, m3, C3, F3, by omega, by go_num, e3, h3⟩
      case measure => simp [intOf]; omega
    · obtain rfl : k = n := by omega
      have hgd : goodGrams (flat l vs) := flat_good l vs fun v hv => by
        obtain ⟨j, hj⟩ := List.mem_iff_getElem?.1 hv
        have hl : j < l.length := by have := (List.getElem?_eq_some_iff.1 hj).1; have := hG.len; omega
        obtain ⟨A, c, e⟩ := own_shape (hG.data j _ v (List.getElem?_eq_getElem hl) hj)
        exact ⟨A, _, c, e⟩
      have hog : m.w.ownsRow 0 110 4 (.slice A k c) k (flat l vs) := by
        have := own_base hG'.own (Nat.zero_le _)
        rwa [← HN.out] at this
      have hng : ∀ q, (Value.slice A k c).ownBlock = some q → ¬ F' q := fun q hq hf => by
        rcases hF' q hf with h | ⟨u, hu, h⟩ | h
        · exact hne q (.inl hq) h
        · exact hgsd q hq u (List.mem_of_mem_take hu) h
        · have := (hown.lt q hq).2
          omega
      have hcall := bookGrams_any p C' F' A k c (flat l vs) m.w hB' hog hgd hng (by omega)
      clear hB' hog hG' hgsd
      go_wp2_with (go_at_call 132; refine hcall.mono ?_; rintro e w2 ⟨rfl, m2, C2, F2, rfl, hB2, hC2, hF2⟩)
      have h02 : Chg C w m2.w := hmC.trans m2.h fun q hq h => by
        rcases hC' q h with h | h
        · exact h
        · omega
      have hs0 := hmC.size
      exact bodyPost_ret (v := .tuple #[]) (by simp [results, Tryz.results95, go_sem]) rfl ⟨rfl, ⟨m2.w, h02⟩, C2, F2, rfl, hB2, fun q hq => by
        rcases hC2 q hq with h | h
        · exact hC' q h
        · exact .inr (by omega), fun q hq => by
        rcases hF2 q hq with h | h | h
        · rcases hF' q h with h | ⟨u, hu, h⟩ | h
          · exact .inl h
          · exact .inr (.inl (.inr ⟨u, List.mem_of_mem_take hu, h⟩))
          · exact .inr (.inr h)
        · exact .inr (.inl (.inl h))
        · exact .inr (.inr (by omega))⟩
end Go.Proofs.YteemkceceaabkaaGreat
