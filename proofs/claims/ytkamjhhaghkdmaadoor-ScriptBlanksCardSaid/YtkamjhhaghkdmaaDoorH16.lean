/- Rows and bytes: what a slice value reads as, what is owned, and how these stay. Maps keyed by whole numbers, entry by entry. -/
import Derived.Test.YtkamjhhaghkdmaaDoorH15
import Derived.WalkMore
import Derived.Maps.Own
namespace Go.Ear
open Go.RowKit

instance (c : Nat) (W a : World) [h : Old c W] : May c (fun k => k < W.heap.size) a := ⟨.inl h.lt⟩

section
variable {w W a b : World} {F : Nat → Prop} {e : TypeId} {sz n base base' : Nat} {v : Value} {xs : List Value}
theorem own_kept (h : a.ownsRow base e sz v n xs) (hk : ∀ k, v.ownBlock = some k → b.heap[k]? = a.heap[k]?) : b.ownsRow base e sz v n xs := by
  refine ⟨h.1, ?_⟩
  rcases h.2 with h1 | ⟨g, cap, cur, rfl, hb, hg, r⟩
  · exact .inl h1
  · exact .inr ⟨g, cap, cur, rfl, hb, (hk g rfl).trans hg, r⟩
theorem own_chg (h : a.ownsRow base e sz v n xs) (hc : Chg F a b) (hF : ∀ k, v.ownBlock = some k → ¬ F k) : b.ownsRow base e sz v n xs :=
  own_kept h fun k hk => hc.block k (h.lt k hk).2 (hF k hk)
theorem own_base (h : a.ownsRow base e sz v n xs) (hb : base' ≤ base) : a.ownsRow base' e sz v n xs := by
  refine ⟨h.1, ?_⟩
  rcases h.2 with h1 | ⟨g, cap, cur, rfl, hb', r⟩
  · exact .inl h1
  · exact .inr ⟨g, cap, cur, rfl, by omega, r⟩
/-- What was made behind W stays owned while older blocks are written. -/
theorem own_up [i : WLe w W] (h : a.ownsRow W.heap.size e sz v n xs) (hc : Chg (fun k => k < W.heap.size) a b) : b.ownsRow w.heap.size e sz v n xs :=
  own_base (own_chg h hc fun k hk => by have := (h.lt k hk).1; omega) i.le
theorem own_ne {p : Nat} {cs : Array Value} {t : TypeId} {fr : Nat × Nat} (h : a.ownsRow base e sz v n xs) (hp : a.heap[p]? = some (.cells cs t fr)) (hne : e ≠ t) : ∀ k, v.ownBlock = some k → k ≠ p := by
  rintro k hk rfl
  rcases h.2 with ⟨rfl, _⟩ | ⟨g, cap, cur, rfl, _, hg, _⟩
  · simp [Value.ownBlock] at hk
  · simp [Value.ownBlock] at hk
    subst hk
    rw [hg] at hp
    simp only [Option.some.injEq, Obj.cells.injEq] at hp
    exact hne hp.2.1
theorem own_own {e' : TypeId} {sz' n' base'' : Nat} {v' : Value} {xs' : List Value} (h : a.ownsRow base e sz v n xs) (h' : a.ownsRow base'' e' sz' v' n' xs') (hne : e ≠ e') : ∀ k, v.ownBlock = some k → v'.ownBlock = some k → False := by
  intro k hk hk'
  rcases h'.2 with ⟨rfl, _⟩ | ⟨g, cap, cur, rfl, _, hg, _⟩
  · simp [Value.ownBlock] at hk'
  · simp [Value.ownBlock] at hk'
    subst hk'
    exact own_ne h hg hne _ hk rfl
theorem own_shape (h : a.ownsRow base e sz v n xs) : ∃ A c, v = .slice A n c := by
  rcases h.2 with ⟨rfl, e⟩ | ⟨g, cap, cur, rfl, _⟩
  · exact ⟨none, 0, by rw [e]⟩
  · exact ⟨_, _, rfl⟩
end

/-- A slice whose cells read as xs, whatever its make. -/
def SL (w : World) (v : Value) (n sz : Nat) (xs : List Value) : Prop :=
  xs.length = n * sz ∧ ∃ A c, v = .slice A n c ∧ (A = none → n = 0 ∧ c = 0) ∧ n ≤ c ∧ (0 < n → ∃ b off, A = some ⟨b, off, none⟩ ∧ b < w.heap.size ∧ ∀ i u, xs[i]? = some u → w.cell? ⟨b, off + i, none⟩ = some u)

theorem SL.addr {w : World} {n sz c : Nat} {xs : List Value} {ad : Addr} (h : SL w (.slice (some ad) n c) n sz xs) : ∀ j u, xs[j]? = some u → w.cell? (ad.add j) = some u := by
  intro j u hu
  obtain ⟨hl, A, c', e, _, _, hc⟩ := h
  have hj : j < xs.length := (List.getElem?_eq_some_iff.1 hu).1
  have hp : 0 < n := by
    rcases Nat.eq_zero_or_pos n with rfl | hp
    · simp at hl; subst hl; simp at hj
    · exact hp
  obtain ⟨b', off', e', _, hcc⟩ := hc hp
  simp only [Value.slice.injEq, true_and] at e
  rw [← e.1] at e'
  cases e'
  rw [Go.WideShapes.add_plain]
  exact hcc j u hu
theorem SL.chg {F : Nat → Prop} {w w' : World} {v : Value} {n sz : Nat} {xs : List Value} (h : SL w v n sz xs) (hc : Chg F w w') (hF : ∀ k, k < w.heap.size → v.ownBlock = some k → ¬ F k) : SL w' v n sz xs := by
  obtain ⟨hl, A, c, rfl, h0, h1, h2⟩ := h
  refine ⟨hl, A, c, rfl, h0, h1, fun hp => ?_⟩
  obtain ⟨b, off, rfl, hb, hcc⟩ := h2 hp
  exact ⟨b, off, rfl, Nat.lt_of_lt_of_le hb hc.size, fun i u hu => (hc.cell (p := ⟨b, off + i, none⟩) hb (hF b hb rfl)).trans (hcc i u hu)⟩
theorem SL.chg' {F : Nat → Prop} {w w' : World} {v : Value} {n sz : Nat} {xs : List Value} (h : SL w v n sz xs) (hc : Chg F w w') (hF : 0 < n → ∀ k, v.ownBlock = some k → ¬ F k) : SL w' v n sz xs := by
  obtain ⟨hl, A, c, rfl, h0, h1, h2⟩ := h
  refine ⟨hl, A, c, rfl, h0, h1, fun hp => ?_⟩
  obtain ⟨b, off, rfl, hb, hcc⟩ := h2 hp
  exact ⟨b, off, rfl, Nat.lt_of_lt_of_le hb hc.size, fun i u hu => (hc.cell (p := ⟨b, off + i, none⟩) hb (hF hp b rfl)).trans (hcc i u hu)⟩
theorem SL.own_lt {w : World} {A : Option Addr} {n c sz : Nat} {xs : List Value} (h : SL w (.slice A n c) n sz xs) (hp : 0 < n) : ∀ k, (Value.slice A n c).ownBlock = some k → k < w.heap.size := by
  obtain ⟨_, A', c', e, _, _, h2⟩ := h
  simp only [Value.slice.injEq, true_and] at e
  obtain ⟨rfl, rfl⟩ := e
  obtain ⟨b, off, rfl, hb, _⟩ := h2 hp
  intro k hk
  simp [Value.ownBlock] at hk
  omega
theorem SL.grow {w w' : World} {v : Value} {n sz : Nat} {xs : List Value} (h : SL w v n sz xs) (hc : Chg Noth w w') : SL w' v n sz xs := h.chg hc fun _ _ _ e => e
theorem SL.of_own {w : World} {base : Nat} {e : TypeId} {v : Value} {n sz : Nat} {xs : List Value} (h : w.ownsRow base e sz v n xs) : SL w v n sz xs := by
  have h' := h
  refine ⟨h.1, ?_⟩
  rcases h.2 with ⟨rfl, e⟩ | ⟨g, cap, cur, rfl, _, _, hn, _⟩
  · exact ⟨none, 0, by rw [e], fun _ => ⟨e, rfl⟩, by omega, fun hp => by omega⟩
  · have hg := (h'.lt g rfl).2
    refine ⟨some ⟨g, 0, none⟩, cap, rfl, fun h => (by cases h), hn, fun _ => ⟨g, 0, rfl, hg, fun i u hu => ?_⟩⟩
    have := h'.cells (g := g) rfl i u hu
    rwa [Go.WideShapes.add_plain] at this

theorem wp_scope_fwd {P : Program} {a : Act} {w : World} {Q : Exit → Act → World → Prop} {c rest : Code} (l : Nat) (hf : findLabel c l = some rest)
    (first : c.wp P (Exit.jump l (fun a' w' => rest.wp P (Exit.noGoto Q) a' w') Q) a w) : (Code.scope c).wp P Q a w :=
  wp_scope_jumps l (fun a' w' => rest.wp P (Exit.noGoto Q) a' w') (fun _ _ => 0) hf first fun a' w' h =>
    Code.wp_mono (fun e a'' w'' q => by cases e <;> first | exact q | exact q.elim) h

/-- Bytes as cells. -/
def bv (l : List UInt8) : List Value := l.map fun x => .int .u8 (x.toNat : Int)
@[simp] theorem bv_length (l : List UInt8) : (bv l).length = l.length := by simp [bv]
theorem bv_one (l : List UInt8) : ∀ u ∈ bv l, u.oneCell' = true := by
  intro u hu
  simp only [bv, List.mem_map] at hu
  obtain ⟨x, _, rfl⟩ := hu
  rfl
end Go.Ear
namespace Go.Ear
open Go.RowKit Go.ChangeMaps Go.WideMaps Go.WideElems
set_option linter.unusedSimpArgs false

/-- What a key's entry is. -/
def mlook : List (Int × Value) → Int → Option Value
  | [], _ => none
  | p :: l, a => if p.1 = a then some p.2 else mlook l a
/-- Block b is a map with these entries, keyed by whole numbers of kind k. -/
def MapIs (w : World) (b : Nat) (k : IntKind) (l : List (Int × Value)) : Prop :=
  ∃ es clock, w.heap[b]? = some (.map es clock) ∧ es.toList.map (fun e => (e.key, e.val)) = l.map (fun p => (Value.int k p.1, p.2))
theorem MapIs.lt {w : World} {b : Nat} {k : IntKind} {l : List (Int × Value)} (h : MapIs w b k l) : b < w.heap.size := by
  obtain ⟨es, clock, hb, _⟩ := h
  exact (Array.getElem?_eq_some_iff.1 hb).1
theorem MapIs.keep {w w' : World} {b : Nat} {k : IntKind} {l : List (Int × Value)} (h : MapIs w b k l) (hb : w'.heap[b]? = w.heap[b]?) : MapIs w' b k l := by
  obtain ⟨es, clock, h1, h2⟩ := h
  exact ⟨es, clock, hb.trans h1, h2⟩
theorem MapIs.grow {F : Nat → Prop} {w w' : World} {b : Nat} {k : IntKind} {l : List (Int × Value)} (h : MapIs w b k l) (hc : Chg F w w') (hF : ¬ F b) : MapIs w' b k l :=
  h.keep (hc.block b h.lt hF)
theorem MapIs.made (w : World) (k : IntKind) : MapIs (w.alloc (.map #[] 0)) w.heap.size k [] := ⟨#[], 0, heap_alloc_new _ _, rfl⟩
theorem find_ent {k : IntKind} {a : Int} : ∀ (es : List MapEntry) (l : List (Int × Value)) (i : Nat), es.map (fun e => (e.key, e.val)) = l.map (fun p => (Value.int k p.1, p.2)) →
    (mlook l a = none → Instr.findNow (.int k) (.int k a) es i = some none) ∧ ∀ v, mlook l a = some v → ∃ j, Instr.findNow (.int k) (.int k a) es i = some (some (j, v))
  | [], [], i, _ => ⟨fun _ => rfl, fun v h => by simp [mlook] at h⟩
  | [], p :: l, i, h => by simp at h
  | e :: es, [], i, h => by simp at h
  | e :: es, p :: l, i, h => by
    simp only [List.map_cons, List.cons.injEq, Prod.mk.injEq] at h
    obtain ⟨⟨hk, hv⟩, hr⟩ := h
    obtain ⟨h1, h2⟩ := find_ent (a := a) es l (i + 1) hr
    by_cases hp : p.1 = a
    · have e1 : mlook (p :: l) a = some p.2 := by simp [mlook, hp]
      have e2 : Instr.findNow (.int k) (.int k a) (e :: es) i = some (some (i, e.val)) := by simp [Instr.findNow, Instr.sameNow, hk, hp]
      rw [e1, e2]
      exact ⟨fun h => by simp at h, fun v h => ⟨i, by simp at h; rw [hv, h]⟩⟩
    · have e1 : mlook (p :: l) a = mlook l a := by simp [mlook, hp]
      have hp' : (a == p.1) = false := by rw [beq_eq_false_iff_ne]; exact fun h => hp h.symm
      have e2 : Instr.findNow (.int k) (.int k a) (e :: es) i = Instr.findNow (.int k) (.int k a) es (i + 1) := by simp only [Instr.findNow, Instr.sameNow, hk, if_true, hp']
      rw [e1, e2]
      exact ⟨h1, h2⟩
section
variable {P : Program} {w : World} {t kt e : TypeId} {k : IntKind} {b : Nat} {l : List (Int × Value)}
theorem MapIs.lookup_some (h : MapIs w b k l) (ht : P.underlying t = some (.map kt e)) (hk : P.underlying kt = some (.int k)) (a : Int) (v : Value) (hv : mlook l a = some v) :
    (Instr.lookup t (.map (some b)) (.int k a) true).run P w = .ok (.tuple #[v, .bool true]) w := by
  obtain ⟨es, clock, hb, he⟩ := h
  obtain ⟨j, hj⟩ := (find_ent (a := a) es.toList l 0 he).2 v hv
  simp [Instr.lookup, run_underlying ht, MapKept.run_getObj_map hb, MapKept.run_checkKey hk (k := .int k a) rfl, MapKept.run_findKey hk hj, Result.andThen]
theorem MapIs.lookup_none (h : MapIs w b k l) (ht : P.underlying t = some (.map kt e)) (hk : P.underlying kt = some (.int k)) (a : Int) {z : Value} (hz : (zeroValue e).run P w = .ok z w) (hv : mlook l a = none) :
    (Instr.lookup t (.map (some b)) (.int k a) true).run P w = .ok (.tuple #[z, .bool false]) w := by
  obtain ⟨es, clock, hb, he⟩ := h
  have hj := (find_ent (a := a) es.toList l 0 he).1 hv
  simp [Instr.lookup, run_underlying ht, MapKept.run_getObj_map hb, MapKept.run_checkKey hk (k := .int k a) rfl, MapKept.run_findKey hk hj, hz, Result.andThen]
/-- A store at a key that is not there. -/
theorem MapIs.put_new (h : MapIs w b k l) (ht : P.underlying t = some (.map kt e)) (hk : P.underlying kt = some (.int k)) (a : Int) (v : Value) (hv : mlook l a = none) :
    ∃ w', (Instr.mapUpdate t (.map (some b)) (.int k a) v).run P w = .ok () w' ∧ MapIs w' b k (l ++ [(a, v)]) ∧ w.grownBy w' (some b) := by
  obtain ⟨es, clock, hb, he⟩ := h
  have hj := (find_ent (a := a) es.toList l 0 he).1 hv
  have hrun : (Instr.mapUpdate t (.map (some b)) (.int k a) v).run P w = .ok () (setBlock w b (.map (es.push { key := .int k a, val := v, born := clock }) (clock + 1))) := by
    simp [Instr.mapUpdate, run_underlying ht, MapKept.run_getObj_map hb, MapKept.run_checkKey hk (k := .int k a) rfl, MapKept.run_findKey hk hj, MapKept.run_setObj_map _ hb, Result.andThen]
    rfl
  exact ⟨_, hrun, ⟨_, _, heap_setBlock_same hb _, by simp [he]⟩, ⟨rfl, rfl, rfl, by simp [setBlock], fun i _ hi => heap_setBlock_other hb _ (fun e => hi (by rw [e]))⟩⟩
end
end Go.Ear
