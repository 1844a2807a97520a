/- SameBag on two lists that read alike. -/
import Derived.Test.YteemkceceaabkaaGreatW
namespace Go.Proofs.YteemkceceaabkaaGreat
open Go.RowKit Go.Ear
set_option maxHeartbeats 1000000
set_option maxRecDepth 40000

/-- What a walk wants of a datagram in a list. -/
theorem GL.at {w : World} {base : Nat} {A : Option Addr} {n c : Nat} {vs : List Value} {l : List Gm} (h : GL w base (.slice A n c) vs l) (k : Nat) (x : Gm) (hx : l[k]? = some x) :
    ∃ g D dc, A = some ⟨g, 0, none⟩ ∧ g < w.heap.size ∧ w.cell? ⟨g, k * 4, none⟩ = some (i64 x.id) ∧ w.cell? ⟨g, k * 4 + 1, none⟩ = some (i64 x.fr) ∧ w.cell? ⟨g, k * 4 + 2, none⟩ = some (i64 x.to) ∧ w.cell? ⟨g, k * 4 + 3, none⟩ = some (.slice D x.data.length dc) ∧ SL w (.slice D x.data.length dc) x.data.length 1 (bv x.data) ∧ base ≤ g ∧ (∀ q, (Value.slice D x.data.length dc).ownBlock = some q → base ≤ q ∧ q < w.heap.size) := by
  have hk : k < l.length := (List.getElem?_eq_some_iff.1 hx).1
  have hv : vs[k]? = some (vs[k]'(by rw [h.len]; exact hk)) := List.getElem?_eq_getElem _
  generalize vs[k]'(by rw [h.len]; exact hk) = v at hv
  have hd := h.data k x v hx hv
  obtain ⟨D, dc, rfl⟩ := own_shape hd
  have ho := h.own
  obtain ⟨A', c', e⟩ := own_shape ho
  cases e
  obtain ⟨g, cap, e1, hb, hg⟩ := ho.form (by omega)
  cases e1
  obtain ⟨a0, a1, a2, a3⟩ := gram_cells ho h.len hx hv
  exact ⟨g, D, dc, rfl, hg, a0, a1, a2, a3, SL.of_own hd, hb, fun q hq => hd.lt q hq⟩
theorem GL.blk {w : World} {base : Nat} {gs : Value} {vs : List Value} {l : List Gm} (h : GL w base gs vs l) (k : Nat) (hk : gs.ownBlock = some k ∨ ∃ v ∈ vs, v.ownBlock = some k) : base ≤ k ∧ k < w.heap.size := by
  rcases hk with hk | ⟨v, hv, hk⟩
  · exact h.own.lt k hk
  · obtain ⟨j, hj⟩ := List.mem_iff_getElem?.1 hv
    have hl : j < l.length := by have := (List.getElem?_eq_some_iff.1 hj).1; have := h.len; omega
    exact (h.data j _ v (List.getElem?_eq_getElem hl) hj).lt k hk
theorem GL.grow {w w' : World} {base : Nat} {gs : Value} {vs : List Value} {l : List Gm} (h : GL w base gs vs l) (hc : Chg Noth w w') : GL w' base gs vs l := h.chg hc fun _ _ _ e => e

theorem sameBag_any (A C : Option Addr) (c d : Nat) (vs us : List Value) (l : List Gm) (n b1 b2 : Nat) (hn : n = l.length) (w : World) (h1 : GL w b1 (.slice A n c) vs l) (h2 : GL w b2 (.slice C n d) us l) (hsm : ∀ g ∈ l, g.data.length ≤ 1024) (hL : n ≤ 65536) :
    Calls Tryz.prog 96 #[.slice A n c, .slice C n d] w (Gr (.bool true) w) := by
  have HN := Lib.hid hn
  clear hn
  go_enter Tryz.func96, Tryz.ntmps96
  go_wp2
  go_loopw [5] (fun i wr => ∃ (k : Nat) (g : Grows w), k ≤ n ∧ i = .int .i64 k ∧ wr = g.w) (fun i _ => n - (intOf i).toNat)
  case atStart => exact ⟨0, ⟨w, Chg.refl _ _⟩, Nat.zero_le _, rfl, rfl⟩
  case round =>
    obtain ⟨k, g, hk, rfl, rfl⟩ := hrel
    by_cases hlt : k < n
    · have hkl : k < l.length := by have := HN.out; omega
      obtain ⟨x, hx⟩ : ∃ x, l[k]? = some x := ⟨_, List.getElem?_eq_getElem hkl⟩
      have hs := hsm x (List.mem_of_getElem? hx)
      obtain ⟨ga, D, dc, rfl, l1, a0, a1, a2, a3, s1, _⟩ := h1.at k x hx
      obtain ⟨gb, E, ec, rfl, l2, e0, e1, e2, e3, s2, _⟩ := h2.at k x hx
      have i1 : Old ga w := ⟨l1⟩
      have i2 : Old gb w := ⟨l2⟩
      have hc := fun (g' : Grows w) => sameGram_any x.id x.fr x.to D E dc ec x.data x.data.length rfl g'.w (s1.grow g'.h) (s2.grow g'.h) (by omega)
      clear hx
      go_wp2
      refine wp_region_grows (by kernel_rfl) (by kernel_rfl) ?_
      repeat (go_big_quiet_step ((first | (go_at_call 85; exact grows_of (hc (g.join _))))))
      refine wpQuiet_nil ?_
      rintro _ ⟨g2, rfl⟩
      go_wp2
      go_roundw
      case rel => exact ⟨k + 1, g.join g2, by omega, by go_num, rfl⟩
      case measure => simp [intOf]; omega
    · go_wp2
      go_ret
      exact gr_mk rfl (by repeat (with_reducible first | exact Chg.refl _ _ | refine chg_m ?_ _ | refine chg_g ?_ _ | refine chg_alloc ?_ _ | refine chg_drew ?_ | refine chg_drewN ?_ _ | refine chg_set ?_ _ _ _))
end Go.Proofs.YteemkceceaabkaaGreat
