/- The book of lists: what is grown. -/
import Derived.Test.YteemkceceaabkaaGreatPg
import Derived.ArgAppend
set_option linter.unusedSimpArgs false
set_option linter.unusedVariables false
namespace Go.Proofs.YteemkceceaabkaaGreat
open Go.RowKit Go.Ear
set_option maxHeartbeats 1000000
set_option maxRecDepth 40000

/-- append onto a row of one's own: whichever way, the old slice still reads as it did. -/
theorem run_append_keep {P : Program} (w : World) (base : Nat) (t ty e : TypeId) (i : TypeInfo) (z : Value) (size bytes : Nat) (ht : P.underlying t = some (.slice e)) (hi : P.info? e = some i) (hz : i.zero = some z)
    (hsize : i.size = size) (hby : i.bytes = bytes) (hzs : z.cells.size = size) (hsz : 0 < size) (v : Value) (n : Nat) (xs : List Value) (hown : w.ownsRow base e size v n xs)
    (a : Addr) (m c : Nat) (news : List Value) (hl : news.length = m * size) (hnews : ∀ j u, news[j]? = some u → w.cell? (a.add j) = some u) (h1 : ∀ u ∈ news, u.oneCell' = true)
    (h63 : n + m ≤ maxLen) (hbytes : (n + m) * bytes ≤ 140737488355328) (hbase : base ≤ w.heap.size) :
    ∃ v' w', (Builtin.append_ #[t, t] ty #[v, .slice (some a) m c]).run P w = .ok v' w' ∧ w'.ownsRow base e size v' (n + m) (xs ++ news) ∧ w.grownBy w' v.ownBlock ∧ SL w' v n size xs ∧ ∀ x, v'.ownBlock = some x → v.ownBlock = some x ∨ w.heap.size ≤ x := by
  obtain ⟨v', w', hrun, r1, r2, _⟩ := run_append_own (P := P) w base t ty e i z size bytes ht hi hz hsize hby hzs hsz v n xs hown a m c news hl hnews h1 h63 hbytes hbase
  refine ⟨v', w', hrun, r1, r2, ?_⟩
  have hown0 := hown
  have hxl := hown.1
  rcases hown.2 with ⟨rfl, e0⟩ | ⟨g, cap, cur, rfl, hb, hg, hn, hcap, hsz2, htk⟩
  · subst e0
    obtain rfl := List.eq_nil_of_length_eq_zero (by simpa using hxl)
    refine ⟨SL.of_own (World.ownsRow_nil w' 0 e size), fun x hx => .inr ?_⟩
    obtain ⟨v2, w2, hrun2, s1, s2, _⟩ := run_append_own (P := P) w w.heap.size t ty e i z size bytes ht hi hz hsize hby hzs hsz (.slice none 0 0) 0 [] (World.ownsRow_nil w _ e size) a m c news hl hnews h1 h63 hbytes (Nat.le_refl _)
    rw [hrun] at hrun2
    cases hrun2
    exact (s1.lt x hx).1
  · by_cases hroom : n + m ≤ cap
    · have hsp : ∀ j, j < news.length → g < w.heap.size ∧ ∃ u, cur[0 + n * i.size + j]? = some u := fun j hj => by
        refine ⟨(Array.getElem?_eq_some_iff.1 hg).1, _, Array.getElem?_eq_getElem ?_⟩
        rw [hsz2, hsize]
        have := Nat.mul_le_mul_right size hroom
        rw [Nat.add_mul] at this
        omega
      have hrun2 := run_append_room_cells (P := P) w t ty e i ht hi g 0 n cap a m c news (by rw [hsize]; exact hl) hnews h1 hroom (fun j hj => by
        obtain ⟨u, hu⟩ := (hsp j hj).2
        rw [cell_of_row _ _ _ _ _ _ hg, hu]; rfl) (fun j hj => frozen_of_row _ _ _ _ _ hg)
      rw [hrun] at hrun2
      cases hrun2
      refine ⟨⟨hxl, some ⟨g, 0, none⟩, cap, rfl, fun h => (by cases h), hn, fun hp => ⟨g, 0, rfl, (r1.lt g rfl).2, fun q u hu => ?_⟩⟩, fun x hx => .inl hx⟩
      have hq : q < xs.length := (List.getElem?_eq_some_iff.1 hu).1
      have := r1.cells (g := g) rfl q u (by rw [List.getElem?_append_left hq]; exact hu)
      rwa [Go.WideShapes.add_plain] at this
    · obtain ⟨v2, w2, hrun2, s1, s2⟩ := run_append_arg_grows (P := P) w t ty e i z size bytes ht hi hz hsize hby hzs hsz ⟨g, 0, none⟩ n cap xs hxl (hown0.cells (g := g) rfl) a m c news hl hnews (by omega) h63 hbytes
      rw [hrun] at hrun2
      cases hrun2
      exact ⟨(SL.of_own hown0).chg (Chg.of_grown s2) fun _ _ _ e => (by cases e), fun x hx => .inr (s1.lt x hx).1⟩
theorem wpList_append_keep {P : Program} (w : World) {ops : Array Oper} {rest : List Oper} {o : Oper} {a : Act} {Q : Exit → Act → World → Prop} (hgd : o.guard = none) (s x : Operand) (t : TypeId)
    (ho : o.op = .call { callee := .builtin .append, args := #[s, x], argTypes := #[t, t] }) (base : Nat) (e : TypeId) (i : TypeInfo) (z : Value) (size bytes : Nat) (ht : P.underlying t = some (.slice e)) (hi : P.info? e = some i) (hz : i.zero = some z)
    (hsize : i.size = size) (hby : i.bytes = bytes) (hzs : z.cells.size = size) (hsz : 0 < size) (v : Value) (n : Nat) (xs : List Value) (hs : a.eval s = v) (hown : w.ownsRow base e size v n xs)
    (ad : Addr) (m c : Nat) (news : List Value) (hx : a.eval x = .slice (some ad) m c) (hl : news.length = m * size) (hnews : ∀ j u, news[j]? = some u → w.cell? (ad.add j) = some u) (h1 : ∀ u ∈ news, u.oneCell' = true)
    (h63 : n + m ≤ maxLen) (hbytes : (n + m) * bytes ≤ 140737488355328) (hbase : base ≤ w.heap.size)
    (h : ∀ v' w', w'.ownsRow base e size v' (n + m) (xs ++ news) → w.grownBy w' v.ownBlock → SL w' v n size xs → (∀ x, v'.ownBlock = some x → v.ownBlock = some x ∨ w.heap.size ≤ x) → wpList P ops Q rest (a.put o.dst v') w') : wpList P ops Q (o :: rest) a w := by
  refine wpList_plain hgd fun K hK' => ?_
  obtain ⟨v', w', hrun, r1, r2, r3, r4⟩ := run_append_keep (P := P) w base t o.type e i z size bytes ht hi hz hsize hby hzs hsz v n xs hown ad m c news hl hnews h1 h63 hbytes hbase
  unfold Oper.wp
  simp [execOp, ho, resolve, invoke, builtin, hs, hx, hrun, Result.andThen]
  exact hK' _ _ (h v' w' r1 r2 r3 r4)

/-- A shorter slice of the same block reads the beginning. -/
theorem sl_prefix {w : World} {A : Option Addr} {n n2 c c2 sz : Nat} {xs ys : List Value} (h : SL w (.slice A n2 c2) n2 sz (xs ++ ys)) (hx : xs.length = n * sz) (hle : n ≤ n2) (hc : n ≤ c) (hA : A = none → n = 0 ∧ c = 0) : SL w (.slice A n c) n sz xs := by
  obtain ⟨_, A', c', e, _, _, h2⟩ := h
  simp only [Value.slice.injEq, true_and] at e
  obtain ⟨rfl, rfl⟩ := e
  refine ⟨hx, A, c, rfl, hA, hc, fun hp => ?_⟩
  obtain ⟨b, off, hA2, hb, hcell⟩ := h2 (by omega)
  exact ⟨b, off, hA2, hb, fun q u hu => hcell q u (by rw [List.getElem?_append_left (List.getElem?_eq_some_iff.1 hu).1]; exact hu)⟩

theorem ha_shape {w : World} {base n c sz : Nat} {e : TypeId} {A : Option Addr} {xs : List Value} (h : w.ownsRow base e sz (.slice A n c) n xs) : (A = none → n = 0 ∧ c = 0) ∧ n ≤ c := by
  obtain ⟨_, A', c', e1, h0, h1, _⟩ := SL.of_own h
  simp only [Value.slice.injEq, true_and] at e1
  obtain ⟨rfl, rfl⟩ := e1
  exact ⟨h0, h1⟩
theorem grow_once {W1 wr gW w3 : World} {Aa A5 A9 : Option Addr} {n ca c5 c9 sz N M : Nat} {e : TypeId} {P R : List Value} (hcx : Chg (fun x => (Value.slice Aa n ca).ownBlock = some x) W1 wr) (hg1 : Chg Noth wr gW) (hol : wr.ownsRow 0 e sz (.slice A5 N c5) N (P ++ R)) (hsl : SL wr (.slice Aa n ca) n sz P)
    (hbl : ∀ x, (Value.slice A5 N c5).ownBlock = some x → (Value.slice Aa n ca).ownBlock = some x ∨ W1.heap.size ≤ x) (hAa : (Aa = none → n = 0 ∧ ca = 0) ∧ n ≤ ca) (hAz : 0 < n → ∃ g, Aa = some ⟨g, 0, none⟩) (hnN : n ≤ N)
    (r2 : gW.grownBy w3 (Value.slice A5 N c5).ownBlock) (r3 : SL w3 (.slice A5 N c5) N sz (P ++ R)) (r4 : ∀ x, (Value.slice A9 M c9).ownBlock = some x → (Value.slice A5 N c5).ownBlock = some x ∨ gW.heap.size ≤ x) :
    Chg (fun x => (Value.slice Aa n ca).ownBlock = some x) W1 w3 ∧ SL w3 (.slice Aa n ca) n sz P ∧ ∀ x, (Value.slice A9 M c9).ownBlock = some x → (Value.slice Aa n ca).ownBlock = some x ∨ W1.heap.size ≤ x := by
  have s1 := hcx.size
  have s2 := hg1.size
  refine ⟨(hcx.trans hg1 fun _ _ e => e.elim).trans (Chg.of_grown r2) fun x hx e => ?_, ?_, fun x hx => ?_⟩
  · rcases hbl x e with h | h
    · exact h
    · omega
  · rcases Nat.eq_zero_or_pos n with h0 | hp
    · exact (hsl.grow hg1).chg' (Chg.of_grown r2) fun h => by omega
    · obtain ⟨g, rfl⟩ := hAz hp
      obtain ⟨g5, cap5, e5, _, _⟩ := hol.form (by omega)
      cases e5
      by_cases hgg : g = g5
      · subst hgg
        exact sl_prefix r3 hsl.1 hnN hAa.2 hAa.1
      · exact (hsl.grow hg1).chg (Chg.of_grown r2) fun x _ hx hx' => by
          simp [Value.ownBlock] at hx hx'
          omega
  · rcases r4 x hx with h | h
    · exact hbl x h
    · exact .inr (by omega)
/-- The lists of one kind have been grown. -/
theorem book_grow {w w' : World} {p d : Nat} {ks : List Kind} {k : Kind} {t : KindT} (h : BookP w p ks (CD 12) (fun q => d ≤ q)) (hd : d < 12) (ht : KT[d]? = some t) (hk : ks[d]? = some k) (hc : Chg (FA ks d) w w') (hn : ∀ (j : Nat) (it : Kept), k.its[j]? = some it → SL w' it.a it.n t.sz (XM d j it.n)) :
    BookP w' p ks (CD 12) (fun q => d + 1 ≤ q) := by
  have hpl := (Array.getElem?_eq_some_iff.1 h.heap).1
  refine ⟨(hc.block p hpl fun e => (e.far (h.apart p)).1 rfl).trans h.heap, h.len, h.apart, fun i t' k' ht' hk' => ⟨(h.vrow i t' k' ht' hk').1, own_chg (h.vrow i t' k' ht' hk').2 hc fun x hx e => (e.far (h.apart x)).2.1 i k' hk' hx⟩, h.few, fun i t' k' j it ht' hk' hj => ?_⟩
  obtain ⟨h1, h2, h3⟩ := h.els i t' k' j it ht' hk' hj
  by_cases hid : i = d
  · subst hid
    rw [ht] at ht'; cases ht'
    rw [hk] at hk'; cases hk'
    have e : CD 12 i j it = XM i j it.n := by unfold CD; rw [if_pos hd]
    rw [e]
    exact ⟨h1, fun h => by omega, hn j it hj⟩
  · have key : ∀ x, it.a.ownBlock = some x → ¬ FA ks d x := fun x hx e => (e.far (h.apart x)).2.2 i hid ⟨k', hk', it, List.mem_of_getElem? hj, hx⟩
    exact ⟨h1, fun ho => own_chg (h2 (by omega)) hc key, h3.chg hc fun x _ hx => key x hx⟩

/-- The blocks of a list of lists. -/
def LB (v : Value) (its : List (Value × Nat × List Value)) (x : Nat) : Prop := v.ownBlock = some x ∨ ∃ it ∈ its, it.1.ownBlock = some x
theorem Lists.chg {w w' : World} {v : Value} {sz : Nat} {its : List (Value × Nat × List Value)} {G : Nat → Prop} (h : Lists w v sz its) (hc : Chg G w w') (hG : ∀ x, LB v its x → ¬ G x) : Lists w' v sz its :=
  ⟨h.1.chg hc fun x _ hx => hG x (.inl hx), fun it hit => (h.2 it hit).chg hc fun x _ hx => hG x (.inr ⟨it, hit, hx⟩)⟩
def Marked (f : Nat → Nat → List Value) (m : Nat) (its : List (Value × Nat × List Value)) : Prop := m = its.length ∧ m ≤ 400 ∧ ∀ (j : Nat) (it : Value × Nat × List Value), its[j]? = some it → it.2.1 ≤ 1500000000 ∧ it.2.2 = marks f j 0 it.2.1
/-- What a grow leaves. -/
def GrowTo (p d sz : Nat) (f : Nat → Nat → List Value) (ks : List Kind) (w : World) : Ending → World → Prop := fun e w' => ∃ A m c its, e = .returned (.slice A m c) ∧ Lists w' (.slice A m c) sz its ∧ Marked f m its ∧ (∀ x, LB (.slice A m c) its x → FA ks d x ∨ w.heap.size ≤ x) ∧
  ∃ mm : Muts (FA ks d) w, w' = mm.w ∧ BookP mm.w p ks (CD 12) (fun q => d + 1 ≤ q)

theorem growBytes_any (p : Nat) (ks : List Kind) (w : World) (h : BookP w p ks (CD 12) (fun q => 4 ≤ q)) : Calls Tryz.prog 57 #[.pointer (some ⟨p, 0, none⟩)] w (GrowTo p 4 1 mkBytes ks w) := by
  obtain ⟨i0, hi0, hz0, hz1, hz2⟩ := info_parts info_list
  obtain ⟨ie, hi2, hy0, hy1, hy2⟩ := info_parts infoBytes
  obtain ⟨k, hk⟩ : ∃ k, ks[4]? = some k := ⟨_, List.getElem?_eq_getElem (by rw [h.len]; decide)⟩
  obtain ⟨h4, hv⟩ := h.vrow 4 _ k rfl hk
  obtain ⟨m, hm⟩ : ∃ m, m = k.its.length := ⟨_, rfl⟩
  rw [← hm] at h4 hv
  obtain ⟨A8, c8, ev⟩ := own_shape hv
  have c0 : w.cell? ⟨p, 8, none⟩ = some (.slice A8 m c8) := by rw [cell_of_row w p 8 _ _ _ h.heap]; exact (flat_get ks 4 k hk).1.trans (by rw [ev])
  have hvF : ∀ x, FA ks 4 x → k.v.ownBlock ≠ some x := fun x hx => (hx.far (h.apart x)).2.1 4 k hk
  rw [ev] at hv hvF
  have hpF : ¬ FA ks 4 p := fun e => (e.far (h.apart p)).1 rfl
  have hpl := (Array.getElem?_eq_some_iff.1 h.heap).1
  have i1 : Old p w := ⟨hpl⟩
  have iP : Out p (FA ks 4) := ⟨hpF⟩
  have hFlt : ∀ x, FA ks 4 x → x < w.heap.size := fun x hx => h.blt hx (Nat.le_refl _)
  have HM := Lib.hid hm
  have HH := Lib.hid h
  have HK := Lib.hid hk
  clear hm ev hk h
  go_enter Tryz.func57, Tryz.ntmps57
  go_wp2
  go_loopw [3, 4] (fun l' i' wr => ∃ (q : Nat) (mm : Muts (FA ks 4) w) (its : List (Value × Nat × List Value)), q ≤ m ∧ i' = .int .i64 q ∧ wr = mm.w ∧ its.length = q ∧ mm.w.ownsRow w.heap.size 68 1 l' q (its.map (·.1)) ∧
      (∀ (j : Nat) (it : Value × Nat × List Value), its[j]? = some it → it.2.1 ≤ 1500000000 ∧ it.2.2 = marks mkBytes j 0 it.2.1 ∧ mm.w.ownsRow 0 5 1 it.1 it.2.1 it.2.2 ∧ ∀ x, it.1.ownBlock = some x → (∃ (j' : Nat) (a : Kept), k.its[j']? = some a ∧ j' < q ∧ a.a.ownBlock = some x) ∨ w.heap.size ≤ x) ∧
      (∀ (j : Nat) (a : Kept), k.its[j]? = some a → q ≤ j → mm.w.ownsRow 0 5 1 a.a a.n (marks mkBytes j 0 a.n)) ∧ (∀ (j : Nat) (a : Kept), k.its[j]? = some a → j < q → SL mm.w a.a a.n 1 (marks mkBytes j 0 a.n))) (fun _ i' _ => m - (intOf i').toNat)
  case atStart => exact ⟨0, ⟨w, Chg.refl _ _⟩, [], Nat.zero_le _, rfl, rfl, rfl, World.ownsRow_nil _ _ _ _, fun j it hj => by simp at hj, fun j it hj _ => (HH.out.els 4 _ k j it rfl HK.out hj).2.1 (Nat.le_refl _), fun j it _ hlt => by omega⟩
  case round =>
    obtain ⟨q, mm, its, hq, rfl, rfl, hil, hout, hits, htodo, hdone⟩ := hrel
    obtain ⟨A3, c3, rfl⟩ := own_shape hout
    have j1 : Old p mm.w := inferInstance
    have e0 : mm.w.cell? ⟨p, 8, none⟩ = some (.slice A8 m c8) := by simp [go_sem, c0]
    by_cases hlt : q < m
    · obtain ⟨it, hj⟩ : ∃ it, k.its[q]? = some it := ⟨_, List.getElem?_eq_getElem (by have := HM.out; omega)⟩
      have ha := htodo q it hj (Nat.le_refl _)
      have hn := (HH.out.els 4 _ k q it rfl HK.out hj).1
      have hfa : ∀ x, it.a.ownBlock = some x → FA ks 4 x := fun x hx => ⟨k, HK.out, it, List.mem_of_getElem? hj, hx⟩
      have hoth : ∀ (j : Nat) (it' : Kept), k.its[j]? = some it' → j ≠ q → ∀ x, it.a.ownBlock = some x → it'.a.ownBlock ≠ some x := fun j it' hj' hne x hx => its_far HK.out (HH.out.apart x) hj hj' (fun e => hne e.symm) hx
      obtain ⟨n, hnn⟩ : ∃ n, n = it.n := ⟨_, rfl⟩
      rw [← hnn] at ha hn
      obtain ⟨Aa, ca, ea⟩ := own_shape ha
      rw [ea] at ha hfa hoth
      obtain ⟨g8, cap8, e8, _, l8⟩ := hv.form (by omega)
      cases e8
      have hg8 : ¬ FA ks 4 g8 := fun e => hvF g8 e rfl
      have iG : Out g8 (FA ks 4) := ⟨hg8⟩
      have i2 : Old g8 w := ⟨l8⟩
      have d0 : w.cell? ⟨g8, q, none⟩ = some (.slice Aa n ca) := by rw [hv.cellAt q (by omega), List.getElem?_map, hj, ← ea]; rfl
      have e1 : mm.w.cell? ⟨g8, q, none⟩ = some (.slice Aa n ca) := by simp [go_sem, d0]
      have j2 : Old g8 mm.w := inferInstance
      have hmark := fun (z u : Nat) (hz : z ≤ 1500000000) (hu : u ≤ 100) W => markBytes_any q z u W (by omega) (by omega)
      have hmc := mm.h
      have hsm := hmc.size
      have HJ := Lib.hid (And.intro hj (And.intro hnn ea))
      have HD := Lib.hid (And.intro hil (And.intro hits (And.intro htodo hdone)))
      have HO := Lib.hid hout
      have HA := Lib.hid ha
      generalize mm.w = W1 at *
      clear hil hits htodo hdone hj hnn ea c0 d0 mm hout ha
      have hAa := ha_shape HA.out
      have hAz : 0 < n → ∃ g, Aa = some ⟨g, 0, none⟩ := fun hp => by obtain ⟨g, _, e, _⟩ := HA.out.form hp; cases e; exact ⟨g, rfl⟩
      have hFb : ∀ x, (Value.slice Aa n ca).ownBlock = some x → w.heap.size ≤ x → False := fun x hx h => by have := hFlt x (hfa x hx); omega
      go_wp2
      go_loopw [5, 6] (fun l' z' wr => ∃ z : Nat, z ≤ 16 ∧ z' = .int .i64 z ∧ Chg (fun x => (Value.slice Aa n ca).ownBlock = some x) W1 wr ∧ wr.ownsRow 0 5 1 l' (n + z) (marks mkBytes q 0 (n + z)) ∧ SL wr (.slice Aa n ca) n 1 (marks mkBytes q 0 n) ∧ ∀ x, l'.ownBlock = some x → (Value.slice Aa n ca).ownBlock = some x ∨ W1.heap.size ≤ x) (fun _ z' _ => 16 - (intOf z').toNat)
      case atStart => exact ⟨0, by omega, rfl, Chg.refl _ _, HA.out, SL.of_own HA.out, fun x hx => .inl hx⟩
      case round =>
        obtain ⟨z, hz, rfl, hcx, hol, hsl, hbl⟩ := hrel
        obtain ⟨A5, c5, rfl⟩ := own_shape hol
        have hsx := hcx.size
        have HX := Lib.hid (And.intro hcx (And.intro hol (And.intro hsl hbl)))
        by_cases hz16 : z < 16
        · clear hcx hol hsl hbl
          go_wp2_with (first
            | (go_at_call 115; refine (hmark (n + z) 1 (by omega) (by omega) _).mono ?_; rintro e w2 ⟨Ab, cb, rfl, hob, g1, rfl⟩; obtain ⟨gb, cap1, e9, _, lgb⟩ := hob.form (by omega); cases e9; have hg1 := g1.h)
            | (at_builtin; refine wpList_append_keep _ rfl _ _ 68 rfl 0 5 ie _ 1 1 Tryz.underlying68 hi2 hy0 hy1 hy2 rfl (by decide) (.slice A5 (n + z) c5) (n + z) (marks mkBytes q 0 (n + z)) rfl (own_chg (F := Noth) HX.out.2.1 (by repeat (with_reducible first | exact hg1 | exact Chg.refl _ _ | refine chg_m ?_ _ | refine chg_g ?_ _ | refine chg_alloc ?_ _ | refine chg_drew ?_ | refine chg_drewN ?_ _ | refine chg_set ?_ _ _ _)) fun _ _ e => e) ⟨gb, 0, none⟩ 1 cb (marks mkBytes q (n + z) 1) rfl (marks_len mkBytes_len) (hob.cells (g := gb) rfl) (oneBytes (marks_goodBytes _ _ _)) (by simp only [maxLen]; omega) (by omega) (Nat.zero_le _) ?_; intro v9 w3 r1 r2 r3 r4; obtain ⟨A9, c9, rfl⟩ := own_shape r1))
          have hol := HX.out.2.1
          have em : marks mkBytes q 0 (n + z) = marks mkBytes q 0 n ++ marks mkBytes q n z := by rw [marks_add, Nat.zero_add]
          have h3 := grow_once HX.out.1 hg1 (P := marks mkBytes q 0 n) (R := marks mkBytes q n z) (by rw [← em]; exact hol) HX.out.2.2.1 HX.out.2.2.2 hAa hAz (by omega) r2 (by rw [← em]; exact r3) r4
          exact ⟨⟨z + 1, by omega, by simp, h3.1, by rw [← Nat.add_assoc, marks_add (n := n + z), Nat.zero_add]; exact r1, h3.2.1, h3.2.2⟩, by simp [intOf]; omega⟩
        · obtain rfl : z = 16 := by omega
          clear hcx hol hsl hbl
          go_wp2_with (first
            | (go_at_call 115; refine (hmark (n + 16) 80 (by omega) (by omega) _).mono ?_; rintro e w2 ⟨Ab, cb, rfl, hob, g1, rfl⟩; obtain ⟨gb, cap1, e9, _, lgb⟩ := hob.form (by omega); cases e9; have hg1 := g1.h)
            | (at_builtin; refine wpList_append_keep _ rfl _ _ 68 rfl 0 5 ie _ 1 1 Tryz.underlying68 hi2 hy0 hy1 hy2 rfl (by decide) (.slice A5 (n + 16) c5) (n + 16) (marks mkBytes q 0 (n + 16)) rfl (own_chg (F := Noth) HX.out.2.1 (by repeat (with_reducible first | exact hg1 | exact Chg.refl _ _ | refine chg_m ?_ _ | refine chg_g ?_ _ | refine chg_alloc ?_ _ | refine chg_drew ?_ | refine chg_drewN ?_ _ | refine chg_set ?_ _ _ _)) fun _ _ e => e) ⟨gb, 0, none⟩ 80 cb (marks mkBytes q (n + 16) 80) rfl (marks_len mkBytes_len) (hob.cells (g := gb) rfl) (oneBytes (marks_goodBytes _ _ _)) (by simp only [maxLen]; omega) (by omega) (Nat.zero_le _) ?_; intro v9 w3 r1 r2 r3 r4; obtain ⟨A9, c9, rfl⟩ := own_shape r1; have hol := HX.out.2.1; have em : marks mkBytes q 0 (n + 16) = marks mkBytes q 0 n ++ marks mkBytes q n 16 := (by rw [marks_add, Nat.zero_add]); have h3 := grow_once HX.out.1 hg1 (P := marks mkBytes q 0 n) (R := marks mkBytes q n 16) (by rw [← em]; exact hol) HX.out.2.2.1 HX.out.2.2.2 hAa hAz (by omega) r2 (by rw [← em]; exact r3) r4; have HO3 := own_chg HO.out h3.1 (fun x hx e => hFb x e (HO.out.lt x hx).1); have hs3 := h3.1.size; have H3 := Lib.hid (And.intro r1 (And.intro h3 em)); clear r1 r2 r3 r4 h3 hol em)
            | (at_builtin; refine wpList_append_lies _ rfl _ _ 44 rfl w.heap.size 68 i0 _ 1 24 Tryz.underlying44 hi0 hz0 hz1 hz2 rfl (by decide) (.slice A3 q c3) q (its.map (·.1)) rfl (own_chg (F := Noth) HO3 (by repeat (with_reducible first | exact Chg.refl _ _ | refine chg_m ?_ _ | refine chg_g ?_ _ | refine chg_alloc ?_ _ | refine chg_drew ?_ | refine chg_drewN ?_ _ | refine chg_set ?_ _ _ _)) fun _ _ e => e) ⟨_, 0, none⟩ 1 1 [.slice A9 (n + 16 + 80) c9] rfl rfl (World.news_of_block (cs := #[.slice A9 (n + 16 + 80) c9]) (heap_alloc_hs _ _ _)) (by intro u hu; simp at hu; subst hu; rfl) (by omega) (by simp only [maxLen]; omega) (by omega) (by simp; omega) _ rfl ?_; intro g7 c7 w4 s1 s2 s3 s4))
          obtain ⟨r1, ⟨t1, t2, t3⟩, em⟩ := H3.out
          obtain ⟨hil, hits, htodo, hdone⟩ := HD.out
          obtain ⟨hj, hnn, ea⟩ := HJ.out
          have c34 : Chg (fun x => (Value.slice A3 q c3).ownBlock = some x) w3 w4 := (show Chg (fun x => (Value.slice A3 q c3).ownBlock = some x) w3 _ from (by repeat (with_reducible first | exact Chg.refl _ _ | refine chg_m ?_ _ | refine chg_g ?_ _ | refine chg_alloc ?_ _ | refine chg_drew ?_ | refine chg_drewN ?_ _ | refine chg_set ?_ _ _ _))).trans (Chg.of_grown s2) fun _ _ e => e
          have hA3 : ∀ x, (Value.slice A3 q c3).ownBlock = some x → w.heap.size ≤ x := fun x hx => (HO.out.lt x hx).1
          have hcA : Chg (FA ks 4) w w4 := (hmc.trans t1 fun x _ e => hfa x e).trans c34 fun x hx e => by have := hA3 x e; omega
          have hkeep : ∀ (v : Value) (nn : Nat) (xs : List Value), W1.ownsRow 0 5 1 v nn xs → (∀ x, v.ownBlock = some x → (Value.slice Aa n ca).ownBlock ≠ some x) → w4.ownsRow 0 5 1 v nn xs := fun v nn xs ho hne => by
            have h3 := own_chg ho t1 fun x hx e => hne x hx e
            exact own_chg h3 c34 fun x hx e => own_own h3 HO3 (by decide) x hx e
          have hoth' : ∀ (j : Nat) (a : Kept), k.its[j]? = some a → j ≠ q → ∀ x, a.a.ownBlock = some x → (Value.slice Aa n ca).ownBlock ≠ some x := fun j a ha hne x hx e => hoth j a ha hne x e hx
          have emm : marks mkBytes q 0 (n + 16) ++ marks mkBytes q (n + 16) 80 = marks mkBytes q 0 (n + 16 + 80) := by rw [marks_add (n := n + 16), Nat.zero_add]
          rw [emm] at r1
          refine ⟨⟨q + 1, ⟨w4, hcA⟩, its ++ [(.slice A9 (n + 16 + 80) c9, n + 16 + 80, marks mkBytes q 0 (n + 16 + 80))], by omega, by simp, rfl, by simp [hil], by simpa using s1, fun j it' hit' => ?_, fun j a ha hle => ?_, fun j a ha hlt' => ?_⟩, by simp [intOf]; omega⟩
          · by_cases hjq : j < q
            · rw [List.getElem?_append_left (by omega)] at hit'
              obtain ⟨b1, b2, b3, b4⟩ := hits j it' hit'
              refine ⟨b1, b2, hkeep _ _ _ b3 fun x hx e => ?_, fun x hx => ?_⟩
              · rcases b4 x hx with ⟨j', a, ha, hj', hax⟩ | h
                · exact hoth' j' a ha (by omega) x hax e
                · exact hFb x e h
              · rcases b4 x hx with ⟨j', a, ha, hj', hax⟩ | h
                · exact .inl ⟨j', a, ha, by omega, hax⟩
                · exact .inr h
            · have hjq' : j = q := by
                have := (List.getElem?_eq_some_iff.1 hit').1
                simp at this
                omega
              subst hjq'
              rw [List.getElem?_append_right (by omega)] at hit'
              simp [hil] at hit'
              subst hit'
              refine ⟨by simp; omega, rfl, own_chg r1 c34 fun x hx e => own_own r1 HO3 (by decide) x hx e, fun x hx => ?_⟩
              rcases t3 x hx with h | h
              · exact .inl ⟨_, it, hj, by omega, by rw [ea]; exact h⟩
              · exact .inr (by omega)
          · exact hkeep _ _ _ (htodo j a ha (by omega)) (hoth' j a ha (by omega))
          · by_cases hjq : j < q
            · exact ((hdone j a ha hjq).chg t1 fun x _ hx e => hoth' j a ha (by omega) x hx e).chg c34 fun x _ hx e => by
                have h1 := hFlt x ⟨k, HK.out, a, List.mem_of_getElem? ha, hx⟩
                have h2 := hA3 x e
                omega
            · obtain rfl : j = q := by omega
              rw [hj] at ha
              cases ha
              rw [ea, ← hnn]
              exact t2.chg c34 fun x _ hx e => hFb x hx (hA3 x e)
    · obtain rfl : q = m := by omega
      have hfin := book_grow HH.out (by decide) rfl HK.out mm.h fun j it hj => hdone j it hj (by have := (List.getElem?_eq_some_iff.1 hj).1; have := HM.out; omega)
      have hL : Lists mm.w (.slice A3 q c3) 1 its := ⟨by rw [hil]; exact SL.of_own hout, fun it hit => by
        obtain ⟨j, hj⟩ := List.getElem?_of_mem hit
        exact SL.of_own (hits j it hj).2.2.1⟩
      have hMk : Marked mkBytes q its := ⟨hil.symm, h4, fun j it hj => ⟨(hits j it hj).1, (hits j it hj).2.1⟩⟩
      have hLB : ∀ x, LB (.slice A3 q c3) its x → FA ks 4 x ∨ w.heap.size ≤ x := fun x hx => by
        rcases hx with hx | ⟨it, hit, hx⟩
        · exact .inr (hout.lt x hx).1
        · obtain ⟨j, hj⟩ := List.getElem?_of_mem hit
          rcases (hits j it hj).2.2.2 x hx with ⟨j', a, ha, _, hax⟩ | h
          · exact .inl ⟨k, HK.out, a, List.mem_of_getElem? ha, hax⟩
          · exact .inr h
      have HF := Lib.hid (And.intro hfin (And.intro hL (And.intro hMk hLB)))
      clear hdone htodo hfin hits hout hL hMk hLB hil
      go_wp2
      exact bodyPost_ret (v := .slice A3 q c3) (by simp [results, Tryz.results57, go_sem]) rfl ⟨A3, q, c3, its, rfl, HF.out.2.1, HF.out.2.2.1, HF.out.2.2.2, mm, rfl, HF.out.1⟩

theorem growGrams_any (p : Nat) (ks : List Kind) (w : World) (h : BookP w p ks (CD 12) (fun q => 9 ≤ q)) : Calls Tryz.prog 62 #[.pointer (some ⟨p, 0, none⟩)] w (GrowTo p 9 4 mkGrams ks w) := by
  obtain ⟨i0, hi0, hz0, hz1, hz2⟩ := info_parts info_listGrams
  obtain ⟨ie, hi2, hy0, hy1, hy2⟩ := info_parts infoGrams
  obtain ⟨k, hk⟩ : ∃ k, ks[9]? = some k := ⟨_, List.getElem?_eq_getElem (by rw [h.len]; decide)⟩
  obtain ⟨h4, hv⟩ := h.vrow 9 _ k rfl hk
  obtain ⟨m, hm⟩ : ∃ m, m = k.its.length := ⟨_, rfl⟩
  rw [← hm] at h4 hv
  obtain ⟨A8, c8, ev⟩ := own_shape hv
  have c0 : w.cell? ⟨p, 18, none⟩ = some (.slice A8 m c8) := by rw [cell_of_row w p 18 _ _ _ h.heap]; exact (flat_get ks 9 k hk).1.trans (by rw [ev])
  have hvF : ∀ x, FA ks 9 x → k.v.ownBlock ≠ some x := fun x hx => (hx.far (h.apart x)).2.1 9 k hk
  rw [ev] at hv hvF
  have hpF : ¬ FA ks 9 p := fun e => (e.far (h.apart p)).1 rfl
  have hpl := (Array.getElem?_eq_some_iff.1 h.heap).1
  have i1 : Old p w := ⟨hpl⟩
  have iP : Out p (FA ks 9) := ⟨hpF⟩
  have hFlt : ∀ x, FA ks 9 x → x < w.heap.size := fun x hx => h.blt hx (Nat.le_refl _)
  have HM := Lib.hid hm
  have HH := Lib.hid h
  have HK := Lib.hid hk
  clear hm ev hk h
  go_enter Tryz.func62, Tryz.ntmps62
  go_wp2
  go_loopw [3, 4] (fun l' i' wr => ∃ (q : Nat) (mm : Muts (FA ks 9) w) (its : List (Value × Nat × List Value)), q ≤ m ∧ i' = .int .i64 q ∧ wr = mm.w ∧ its.length = q ∧ mm.w.ownsRow w.heap.size 58 1 l' q (its.map (·.1)) ∧
      (∀ (j : Nat) (it : Value × Nat × List Value), its[j]? = some it → it.2.1 ≤ 1500000000 ∧ it.2.2 = marks mkGrams j 0 it.2.1 ∧ mm.w.ownsRow 0 110 4 it.1 it.2.1 it.2.2 ∧ ∀ x, it.1.ownBlock = some x → (∃ (j' : Nat) (a : Kept), k.its[j']? = some a ∧ j' < q ∧ a.a.ownBlock = some x) ∨ w.heap.size ≤ x) ∧
      (∀ (j : Nat) (a : Kept), k.its[j]? = some a → q ≤ j → mm.w.ownsRow 0 110 4 a.a a.n (marks mkGrams j 0 a.n)) ∧ (∀ (j : Nat) (a : Kept), k.its[j]? = some a → j < q → SL mm.w a.a a.n 4 (marks mkGrams j 0 a.n))) (fun _ i' _ => m - (intOf i').toNat)
  case atStart => exact ⟨0, ⟨w, Chg.refl _ _⟩, [], Nat.zero_le _, rfl, rfl, rfl, World.ownsRow_nil _ _ _ _, fun j it hj => by simp at hj, fun j it hj _ => (HH.out.els 9 _ k j it rfl HK.out hj).2.1 (Nat.le_refl _), fun j it _ hlt => by omega⟩
  case round =>
    obtain ⟨q, mm, its, hq, rfl, rfl, hil, hout, hits, htodo, hdone⟩ := hrel
    obtain ⟨A3, c3, rfl⟩ := own_shape hout
    have j1 : Old p mm.w := inferInstance
    have e0 : mm.w.cell? ⟨p, 18, none⟩ = some (.slice A8 m c8) := by simp [go_sem, c0]
    by_cases hlt : q < m
    · obtain ⟨it, hj⟩ : ∃ it, k.its[q]? = some it := ⟨_, List.getElem?_eq_getElem (by have := HM.out; omega)⟩
      have ha := htodo q it hj (Nat.le_refl _)
      have hn := (HH.out.els 9 _ k q it rfl HK.out hj).1
      have hfa : ∀ x, it.a.ownBlock = some x → FA ks 9 x := fun x hx => ⟨k, HK.out, it, List.mem_of_getElem? hj, hx⟩
      have hoth : ∀ (j : Nat) (it' : Kept), k.its[j]? = some it' → j ≠ q → ∀ x, it.a.ownBlock = some x → it'.a.ownBlock ≠ some x := fun j it' hj' hne x hx => its_far HK.out (HH.out.apart x) hj hj' (fun e => hne e.symm) hx
      obtain ⟨n, hnn⟩ : ∃ n, n = it.n := ⟨_, rfl⟩
      rw [← hnn] at ha hn
      obtain ⟨Aa, ca, ea⟩ := own_shape ha
      rw [ea] at ha hfa hoth
      obtain ⟨g8, cap8, e8, _, l8⟩ := hv.form (by omega)
      cases e8
      have hg8 : ¬ FA ks 9 g8 := fun e => hvF g8 e rfl
      have iG : Out g8 (FA ks 9) := ⟨hg8⟩
      have i2 : Old g8 w := ⟨l8⟩
      have d0 : w.cell? ⟨g8, q, none⟩ = some (.slice Aa n ca) := by rw [hv.cellAt q (by omega), List.getElem?_map, hj, ← ea]; rfl
      have e1 : mm.w.cell? ⟨g8, q, none⟩ = some (.slice Aa n ca) := by simp [go_sem, d0]
      have j2 : Old g8 mm.w := inferInstance
      have hmark := fun (z u : Nat) (hz : z ≤ 1500000000) (hu : u ≤ 100) W => markGrams_any q z u W (by omega) (by omega)
      have hmc := mm.h
      have hsm := hmc.size
      have HJ := Lib.hid (And.intro hj (And.intro hnn ea))
      have HD := Lib.hid (And.intro hil (And.intro hits (And.intro htodo hdone)))
      have HO := Lib.hid hout
      have HA := Lib.hid ha
      generalize mm.w = W1 at *
      clear hil hits htodo hdone hj hnn ea c0 d0 mm hout ha
      have hAa := ha_shape HA.out
      have hAz : 0 < n → ∃ g, Aa = some ⟨g, 0, none⟩ := fun hp => by obtain ⟨g, _, e, _⟩ := HA.out.form hp; cases e; exact ⟨g, rfl⟩
      have hFb : ∀ x, (Value.slice Aa n ca).ownBlock = some x → w.heap.size ≤ x → False := fun x hx h => by have := hFlt x (hfa x hx); omega
      go_wp2
      go_loopw [5, 6] (fun l' z' wr => ∃ z : Nat, z ≤ 16 ∧ z' = .int .i64 z ∧ Chg (fun x => (Value.slice Aa n ca).ownBlock = some x) W1 wr ∧ wr.ownsRow 0 110 4 l' (n + z) (marks mkGrams q 0 (n + z)) ∧ SL wr (.slice Aa n ca) n 4 (marks mkGrams q 0 n) ∧ ∀ x, l'.ownBlock = some x → (Value.slice Aa n ca).ownBlock = some x ∨ W1.heap.size ≤ x) (fun _ z' _ => 16 - (intOf z').toNat)
      case atStart => exact ⟨0, by omega, rfl, Chg.refl _ _, HA.out, SL.of_own HA.out, fun x hx => .inl hx⟩
      case round =>
        obtain ⟨z, hz, rfl, hcx, hol, hsl, hbl⟩ := hrel
        obtain ⟨A5, c5, rfl⟩ := own_shape hol
        have hsx := hcx.size
        have HX := Lib.hid (And.intro hcx (And.intro hol (And.intro hsl hbl)))
        by_cases hz16 : z < 16
        · clear hcx hol hsl hbl
          go_wp2_with (first
            | (go_at_call 120; refine (hmark (n + z) 1 (by omega) (by omega) _).mono ?_; rintro e w2 ⟨Ab, cb, rfl, hob, g1, rfl⟩; obtain ⟨gb, cap1, e9, _, lgb⟩ := hob.form (by omega); cases e9; have hg1 := g1.h)
            | (at_builtin; refine wpList_append_keep _ rfl _ _ 58 rfl 0 110 ie _ 4 48 Tryz.underlying58 hi2 hy0 hy1 hy2 rfl (by decide) (.slice A5 (n + z) c5) (n + z) (marks mkGrams q 0 (n + z)) rfl (own_chg (F := Noth) HX.out.2.1 (by repeat (with_reducible first | exact hg1 | exact Chg.refl _ _ | refine chg_m ?_ _ | refine chg_g ?_ _ | refine chg_alloc ?_ _ | refine chg_drew ?_ | refine chg_drewN ?_ _ | refine chg_set ?_ _ _ _)) fun _ _ e => e) ⟨gb, 0, none⟩ 1 cb (marks mkGrams q (n + z) 1) rfl (marks_len mkGrams_len) (hob.cells (g := gb) rfl) (oneGrams (marks_goodGrams _ _ _)) (by simp only [maxLen]; omega) (by omega) (Nat.zero_le _) ?_; intro v9 w3 r1 r2 r3 r4; obtain ⟨A9, c9, rfl⟩ := own_shape r1))
          have hol := HX.out.2.1
          have em : marks mkGrams q 0 (n + z) = marks mkGrams q 0 n ++ marks mkGrams q n z := by rw [marks_add, Nat.zero_add]
          have h3 := grow_once HX.out.1 hg1 (P := marks mkGrams q 0 n) (R := marks mkGrams q n z) (by rw [← em]; exact hol) HX.out.2.2.1 HX.out.2.2.2 hAa hAz (by omega) r2 (by rw [← em]; exact r3) r4
          exact ⟨⟨z + 1, by omega, by simp, h3.1, by rw [← Nat.add_assoc, marks_add (n := n + z), Nat.zero_add]; exact r1, h3.2.1, h3.2.2⟩, by simp [intOf]; omega⟩
        · obtain rfl : z = 16 := by omega
          clear hcx hol hsl hbl
          go_wp2_with (first
            | (go_at_call 120; refine (hmark (n + 16) 80 (by omega) (by omega) _).mono ?_; rintro e w2 ⟨Ab, cb, rfl, hob, g1, rfl⟩; obtain ⟨gb, cap1, e9, _, lgb⟩ := hob.form (by omega); cases e9; have hg1 := g1.h)
            | (at_builtin; refine wpList_append_keep _ rfl _ _ 58 rfl 0 110 ie _ 4 48 Tryz.underlying58 hi2 hy0 hy1 hy2 rfl (by decide) (.slice A5 (n + 16) c5) (n + 16) (marks mkGrams q 0 (n + 16)) rfl (own_chg (F := Noth) HX.out.2.1 (by repeat (with_reducible first | exact hg1 | exact Chg.refl _ _ | refine chg_m ?_ _ | refine chg_g ?_ _ | refine chg_alloc ?_ _ | refine chg_drew ?_ | refine chg_drewN ?_ _ | refine chg_set ?_ _ _ _)) fun _ _ e => e) ⟨gb, 0, none⟩ 80 cb (marks mkGrams q (n + 16) 80) rfl (marks_len mkGrams_len) (hob.cells (g := gb) rfl) (oneGrams (marks_goodGrams _ _ _)) (by simp only [maxLen]; omega) (by omega) (Nat.zero_le _) ?_; intro v9 w3 r1 r2 r3 r4; obtain ⟨A9, c9, rfl⟩ := own_shape r1; have hol := HX.out.2.1; have em : marks mkGrams q 0 (n + 16) = marks mkGrams q 0 n ++ marks mkGrams q n 16 := (by rw [marks_add, Nat.zero_add]); have h3 := grow_once HX.out.1 hg1 (P := marks mkGrams q 0 n) (R := marks mkGrams q n 16) (by rw [← em]; exact hol) HX.out.2.2.1 HX.out.2.2.2 hAa hAz (by omega) r2 (by rw [← em]; exact r3) r4; have HO3 := own_chg HO.out h3.1 (fun x hx e => hFb x e (HO.out.lt x hx).1); have hs3 := h3.1.size; have H3 := Lib.hid (And.intro r1 (And.intro h3 em)); clear r1 r2 r3 r4 h3 hol em)
            | (at_builtin; refine wpList_append_lies _ rfl _ _ 49 rfl w.heap.size 58 i0 _ 1 24 Tryz.underlying49 hi0 hz0 hz1 hz2 rfl (by decide) (.slice A3 q c3) q (its.map (·.1)) rfl (own_chg (F := Noth) HO3 (by repeat (with_reducible first | exact Chg.refl _ _ | refine chg_m ?_ _ | refine chg_g ?_ _ | refine chg_alloc ?_ _ | refine chg_drew ?_ | refine chg_drewN ?_ _ | refine chg_set ?_ _ _ _)) fun _ _ e => e) ⟨_, 0, none⟩ 1 1 [.slice A9 (n + 16 + 80) c9] rfl rfl (World.news_of_block (cs := #[.slice A9 (n + 16 + 80) c9]) (heap_alloc_hs _ _ _)) (by intro u hu; simp at hu; subst hu; rfl) (by omega) (by simp only [maxLen]; omega) (by omega) (by simp; omega) _ rfl ?_; intro g7 c7 w4 s1 s2 s3 s4))
          obtain ⟨r1, ⟨t1, t2, t3⟩, em⟩ := H3.out
          obtain ⟨hil, hits, htodo, hdone⟩ := HD.out
          obtain ⟨hj, hnn, ea⟩ := HJ.out
          have c34 : Chg (fun x => (Value.slice A3 q c3).ownBlock = some x) w3 w4 := (show Chg (fun x => (Value.slice A3 q c3).ownBlock = some x) w3 _ from (by repeat (with_reducible first | exact Chg.refl _ _ | refine chg_m ?_ _ | refine chg_g ?_ _ | refine chg_alloc ?_ _ | refine chg_drew ?_ | refine chg_drewN ?_ _ | refine chg_set ?_ _ _ _))).trans (Chg.of_grown s2) fun _ _ e => e
          have hA3 : ∀ x, (Value.slice A3 q c3).ownBlock = some x → w.heap.size ≤ x := fun x hx => (HO.out.lt x hx).1
          have hcA : Chg (FA ks 9) w w4 := (hmc.trans t1 fun x _ e => hfa x e).trans c34 fun x hx e => by have := hA3 x e; omega
          have hkeep : ∀ (v : Value) (nn : Nat) (xs : List Value), W1.ownsRow 0 110 4 v nn xs → (∀ x, v.ownBlock = some x → (Value.slice Aa n ca).ownBlock ≠ some x) → w4.ownsRow 0 110 4 v nn xs := fun v nn xs ho hne => by
            have h3 := own_chg ho t1 fun x hx e => hne x hx e
            exact own_chg h3 c34 fun x hx e => own_own h3 HO3 (by decide) x hx e
          have hoth' : ∀ (j : Nat) (a : Kept), k.its[j]? = some a → j ≠ q → ∀ x, a.a.ownBlock = some x → (Value.slice Aa n ca).ownBlock ≠ some x := fun j a ha hne x hx e => hoth j a ha hne x e hx
          have emm : marks mkGrams q 0 (n + 16) ++ marks mkGrams q (n + 16) 80 = marks mkGrams q 0 (n + 16 + 80) := by rw [marks_add (n := n + 16), Nat.zero_add]
          rw [emm] at r1
          refine ⟨⟨q + 1, ⟨w4, hcA⟩, its ++ [(.slice A9 (n + 16 + 80) c9, n + 16 + 80, marks mkGrams q 0 (n + 16 + 80))], by omega, by simp, rfl, by simp [hil], by simpa using s1, fun j it' hit' => ?_, fun j a ha hle => ?_, fun j a ha hlt' => ?_⟩, by simp [intOf]; omega⟩
          · by_cases hjq : j < q
            · rw [List.getElem?_append_left (by omega)] at hit'
              obtain ⟨b1, b2, b3, b4⟩ := hits j it' hit'
              refine ⟨b1, b2, hkeep _ _ _ b3 fun x hx e => ?_, fun x hx => ?_⟩
              · rcases b4 x hx with ⟨j', a, ha, hj', hax⟩ | h
                · exact hoth' j' a ha (by omega) x hax e
                · exact hFb x e h
              · rcases b4 x hx with ⟨j', a, ha, hj', hax⟩ | h
                · exact .inl ⟨j', a, ha, by omega, hax⟩
                · exact .inr h
            · have hjq' : j = q := by
                have := (List.getElem?_eq_some_iff.1 hit').1
                simp at this
                omega
              subst hjq'
              rw [List.getElem?_append_right (by omega)] at hit'
              simp [hil] at hit'
              subst hit'
              refine ⟨by simp; omega, rfl, own_chg r1 c34 fun x hx e => own_own r1 HO3 (by decide) x hx e, fun x hx => ?_⟩
              rcases t3 x hx with h | h
              · exact .inl ⟨_, it, hj, by omega, by rw [ea]; exact h⟩
              · exact .inr (by omega)
          · exact hkeep _ _ _ (htodo j a ha (by omega)) (hoth' j a ha (by omega))
          · by_cases hjq : j < q
            · exact ((hdone j a ha hjq).chg t1 fun x _ hx e => hoth' j a ha (by omega) x hx e).chg c34 fun x _ hx e => by
                have h1 := hFlt x ⟨k, HK.out, a, List.mem_of_getElem? ha, hx⟩
                have h2 := hA3 x e
                omega
            · obtain rfl : j = q := by omega
              rw [hj] at ha
              cases ha
              rw [ea, ← hnn]
              exact t2.chg c34 fun x _ hx e => hFb x hx (hA3 x e)
    · obtain rfl : q = m := by omega
      have hfin := book_grow HH.out (by decide) rfl HK.out mm.h fun j it hj => hdone j it hj (by have := (List.getElem?_eq_some_iff.1 hj).1; have := HM.out; omega)
      have hL : Lists mm.w (.slice A3 q c3) 4 its := ⟨by rw [hil]; exact SL.of_own hout, fun it hit => by
        obtain ⟨j, hj⟩ := List.getElem?_of_mem hit
        exact SL.of_own (hits j it hj).2.2.1⟩
      have hMk : Marked mkGrams q its := ⟨hil.symm, h4, fun j it hj => ⟨(hits j it hj).1, (hits j it hj).2.1⟩⟩
      have hLB : ∀ x, LB (.slice A3 q c3) its x → FA ks 9 x ∨ w.heap.size ≤ x := fun x hx => by
        rcases hx with hx | ⟨it, hit, hx⟩
        · exact .inr (hout.lt x hx).1
        · obtain ⟨j, hj⟩ := List.getElem?_of_mem hit
          rcases (hits j it hj).2.2.2 x hx with ⟨j', a, ha, _, hax⟩ | h
          · exact .inl ⟨k, HK.out, a, List.mem_of_getElem? ha, hax⟩
          · exact .inr h
      have HF := Lib.hid (And.intro hfin (And.intro hL (And.intro hMk hLB)))
      clear hdone htodo hfin hits hout hL hMk hLB hil
      go_wp2
      exact bodyPost_ret (v := .slice A3 q c3) (by simp [results, Tryz.results62, go_sem]) rfl ⟨A3, q, c3, its, rfl, HF.out.2.1, HF.out.2.2.1, HF.out.2.2.2, mm, rfl, HF.out.1⟩

theorem growInts_any (p : Nat) (ks : List Kind) (w : World) (h : BookP w p ks (CD 12) (fun q => 0 ≤ q)) : Calls Tryz.prog 53 #[.pointer (some ⟨p, 0, none⟩)] w (GrowTo p 0 1 mkInts ks w) := by
  obtain ⟨i0, hi0, hz0, hz1, hz2⟩ := info_parts info_listInts
  obtain ⟨ie, hi2, hy0, hy1, hy2⟩ := info_parts infoInts
  obtain ⟨k, hk⟩ : ∃ k, ks[0]? = some k := ⟨_, List.getElem?_eq_getElem (by rw [h.len]; decide)⟩
  obtain ⟨h4, hv⟩ := h.vrow 0 _ k rfl hk
  obtain ⟨m, hm⟩ : ∃ m, m = k.its.length := ⟨_, rfl⟩
  rw [← hm] at h4 hv
  obtain ⟨A8, c8, ev⟩ := own_shape hv
  have c0 : w.cell? ⟨p, 0, none⟩ = some (.slice A8 m c8) := by rw [cell_of_row w p 0 _ _ _ h.heap]; exact (flat_get ks 0 k hk).1.trans (by rw [ev])
  have hvF : ∀ x, FA ks 0 x → k.v.ownBlock ≠ some x := fun x hx => (hx.far (h.apart x)).2.1 0 k hk
  rw [ev] at hv hvF
  have hpF : ¬ FA ks 0 p := fun e => (e.far (h.apart p)).1 rfl
  have hpl := (Array.getElem?_eq_some_iff.1 h.heap).1
  have i1 : Old p w := ⟨hpl⟩
  have iP : Out p (FA ks 0) := ⟨hpF⟩
  have hFlt : ∀ x, FA ks 0 x → x < w.heap.size := fun x hx => h.blt hx (Nat.le_refl _)
  have HM := Lib.hid hm
  have HH := Lib.hid h
  have HK := Lib.hid hk
  clear hm ev hk h
  go_enter Tryz.func53, Tryz.ntmps53
  go_wp2
  go_loopw [3, 4] (fun l' i' wr => ∃ (q : Nat) (mm : Muts (FA ks 0) w) (its : List (Value × Nat × List Value)), q ≤ m ∧ i' = .int .i64 q ∧ wr = mm.w ∧ its.length = q ∧ mm.w.ownsRow w.heap.size 29 1 l' q (its.map (·.1)) ∧
      (∀ (j : Nat) (it : Value × Nat × List Value), its[j]? = some it → it.2.1 ≤ 1500000000 ∧ it.2.2 = marks mkInts j 0 it.2.1 ∧ mm.w.ownsRow 0 3 1 it.1 it.2.1 it.2.2 ∧ ∀ x, it.1.ownBlock = some x → (∃ (j' : Nat) (a : Kept), k.its[j']? = some a ∧ j' < q ∧ a.a.ownBlock = some x) ∨ w.heap.size ≤ x) ∧
      (∀ (j : Nat) (a : Kept), k.its[j]? = some a → q ≤ j → mm.w.ownsRow 0 3 1 a.a a.n (marks mkInts j 0 a.n)) ∧ (∀ (j : Nat) (a : Kept), k.its[j]? = some a → j < q → SL mm.w a.a a.n 1 (marks mkInts j 0 a.n))) (fun _ i' _ => m - (intOf i').toNat)
  case atStart => exact ⟨0, ⟨w, Chg.refl _ _⟩, [], Nat.zero_le _, rfl, rfl, rfl, World.ownsRow_nil _ _ _ _, fun j it hj => by simp at hj, fun j it hj _ => (HH.out.els 0 _ k j it rfl HK.out hj).2.1 (Nat.le_refl _), fun j it _ hlt => by omega⟩
  case round =>
    obtain ⟨q, mm, its, hq, rfl, rfl, hil, hout, hits, htodo, hdone⟩ := hrel
    obtain ⟨A3, c3, rfl⟩ := own_shape hout
    have j1 : Old p mm.w := inferInstance
    have e0 : mm.w.cell? ⟨p, 0, none⟩ = some (.slice A8 m c8) := by simp [go_sem, c0]
    by_cases hlt : q < m
    · obtain ⟨it, hj⟩ : ∃ it, k.its[q]? = some it := ⟨_, List.getElem?_eq_getElem (by have := HM.out; omega)⟩
      have ha := htodo q it hj (Nat.le_refl _)
      have hn := (HH.out.els 0 _ k q it rfl HK.out hj).1
      have hfa : ∀ x, it.a.ownBlock = some x → FA ks 0 x := fun x hx => ⟨k, HK.out, it, List.mem_of_getElem? hj, hx⟩
      have hoth : ∀ (j : Nat) (it' : Kept), k.its[j]? = some it' → j ≠ q → ∀ x, it.a.ownBlock = some x → it'.a.ownBlock ≠ some x := fun j it' hj' hne x hx => its_far HK.out (HH.out.apart x) hj hj' (fun e => hne e.symm) hx
      obtain ⟨n, hnn⟩ : ∃ n, n = it.n := ⟨_, rfl⟩
      rw [← hnn] at ha hn
      obtain ⟨Aa, ca, ea⟩ := own_shape ha
      rw [ea] at ha hfa hoth
      obtain ⟨g8, cap8, e8, _, l8⟩ := hv.form (by omega)
      cases e8
      have hg8 : ¬ FA ks 0 g8 := fun e => hvF g8 e rfl
      have iG : Out g8 (FA ks 0) := ⟨hg8⟩
      have i2 : Old g8 w := ⟨l8⟩
      have d0 : w.cell? ⟨g8, q, none⟩ = some (.slice Aa n ca) := by rw [hv.cellAt q (by omega), List.getElem?_map, hj, ← ea]; rfl
      have e1 : mm.w.cell? ⟨g8, q, none⟩ = some (.slice Aa n ca) := by simp [go_sem, d0]
      have j2 : Old g8 mm.w := inferInstance
      have hmark := fun (z u : Nat) (hz : z ≤ 1500000000) (hu : u ≤ 100) W => markInts_any q z u W (by omega) (by omega)
      have hmc := mm.h
      have hsm := hmc.size
      have HJ := Lib.hid (And.intro hj (And.intro hnn ea))
      have HD := Lib.hid (And.intro hil (And.intro hits (And.intro htodo hdone)))
      have HO := Lib.hid hout
      have HA := Lib.hid ha
      generalize mm.w = W1 at *
      clear hil hits htodo hdone hj hnn ea c0 d0 mm hout ha
      have hAa := ha_shape HA.out
      have hAz : 0 < n → ∃ g, Aa = some ⟨g, 0, none⟩ := fun hp => by obtain ⟨g, _, e, _⟩ := HA.out.form hp; cases e; exact ⟨g, rfl⟩
      have hFb : ∀ x, (Value.slice Aa n ca).ownBlock = some x → w.heap.size ≤ x → False := fun x hx h => by have := hFlt x (hfa x hx); omega
      go_wp2
      go_loopw [5, 6] (fun l' z' wr => ∃ z : Nat, z ≤ 16 ∧ z' = .int .i64 z ∧ Chg (fun x => (Value.slice Aa n ca).ownBlock = some x) W1 wr ∧ wr.ownsRow 0 3 1 l' (n + z) (marks mkInts q 0 (n + z)) ∧ SL wr (.slice Aa n ca) n 1 (marks mkInts q 0 n) ∧ ∀ x, l'.ownBlock = some x → (Value.slice Aa n ca).ownBlock = some x ∨ W1.heap.size ≤ x) (fun _ z' _ => 16 - (intOf z').toNat)
      case atStart => exact ⟨0, by omega, rfl, Chg.refl _ _, HA.out, SL.of_own HA.out, fun x hx => .inl hx⟩
      case round =>
        obtain ⟨z, hz, rfl, hcx, hol, hsl, hbl⟩ := hrel
        obtain ⟨A5, c5, rfl⟩ := own_shape hol
        have hsx := hcx.size
        have HX := Lib.hid (And.intro hcx (And.intro hol (And.intro hsl hbl)))
        by_cases hz16 : z < 16
        · clear hcx hol hsl hbl
          go_wp2_with (first
            | (go_at_call 111; refine (hmark (n + z) 1 (by omega) (by omega) _).mono ?_; rintro e w2 ⟨Ab, cb, rfl, hob, g1, rfl⟩; obtain ⟨gb, cap1, e9, _, lgb⟩ := hob.form (by omega); cases e9; have hg1 := g1.h)
            | (at_builtin; refine wpList_append_keep _ rfl _ _ 29 rfl 0 3 ie _ 1 8 Tryz.underlying29 hi2 hy0 hy1 hy2 rfl (by decide) (.slice A5 (n + z) c5) (n + z) (marks mkInts q 0 (n + z)) rfl (own_chg (F := Noth) HX.out.2.1 (by repeat (with_reducible first | exact hg1 | exact Chg.refl _ _ | refine chg_m ?_ _ | refine chg_g ?_ _ | refine chg_alloc ?_ _ | refine chg_drew ?_ | refine chg_drewN ?_ _ | refine chg_set ?_ _ _ _)) fun _ _ e => e) ⟨gb, 0, none⟩ 1 cb (marks mkInts q (n + z) 1) rfl (marks_len mkInts_len) (hob.cells (g := gb) rfl) (oneInts (marks_goodInts _ _ _)) (by simp only [maxLen]; omega) (by omega) (Nat.zero_le _) ?_; intro v9 w3 r1 r2 r3 r4; obtain ⟨A9, c9, rfl⟩ := own_shape r1))
          have hol := HX.out.2.1
          have em : marks mkInts q 0 (n + z) = marks mkInts q 0 n ++ marks mkInts q n z := by rw [marks_add, Nat.zero_add]
          have h3 := grow_once HX.out.1 hg1 (P := marks mkInts q 0 n) (R := marks mkInts q n z) (by rw [← em]; exact hol) HX.out.2.2.1 HX.out.2.2.2 hAa hAz (by omega) r2 (by rw [← em]; exact r3) r4
          exact ⟨⟨z + 1, by omega, by simp, h3.1, by rw [← Nat.add_assoc, marks_add (n := n + z), Nat.zero_add]; exact r1, h3.2.1, h3.2.2⟩, by simp [intOf]; omega⟩
        · obtain rfl : z = 16 := by omega
          clear hcx hol hsl hbl
          go_wp2_with (first
            | (go_at_call 111; refine (hmark (n + 16) 80 (by omega) (by omega) _).mono ?_; rintro e w2 ⟨Ab, cb, rfl, hob, g1, rfl⟩; obtain ⟨gb, cap1, e9, _, lgb⟩ := hob.form (by omega); cases e9; have hg1 := g1.h)
            | (at_builtin; refine wpList_append_keep _ rfl _ _ 29 rfl 0 3 ie _ 1 8 Tryz.underlying29 hi2 hy0 hy1 hy2 rfl (by decide) (.slice A5 (n + 16) c5) (n + 16) (marks mkInts q 0 (n + 16)) rfl (own_chg (F := Noth) HX.out.2.1 (by repeat (with_reducible first | exact hg1 | exact Chg.refl _ _ | refine chg_m ?_ _ | refine chg_g ?_ _ | refine chg_alloc ?_ _ | refine chg_drew ?_ | refine chg_drewN ?_ _ | refine chg_set ?_ _ _ _)) fun _ _ e => e) ⟨gb, 0, none⟩ 80 cb (marks mkInts q (n + 16) 80) rfl (marks_len mkInts_len) (hob.cells (g := gb) rfl) (oneInts (marks_goodInts _ _ _)) (by simp only [maxLen]; omega) (by omega) (Nat.zero_le _) ?_; intro v9 w3 r1 r2 r3 r4; obtain ⟨A9, c9, rfl⟩ := own_shape r1; have hol := HX.out.2.1; have em : marks mkInts q 0 (n + 16) = marks mkInts q 0 n ++ marks mkInts q n 16 := (by rw [marks_add, Nat.zero_add]); have h3 := grow_once HX.out.1 hg1 (P := marks mkInts q 0 n) (R := marks mkInts q n 16) (by rw [← em]; exact hol) HX.out.2.2.1 HX.out.2.2.2 hAa hAz (by omega) r2 (by rw [← em]; exact r3) r4; have HO3 := own_chg HO.out h3.1 (fun x hx e => hFb x e (HO.out.lt x hx).1); have hs3 := h3.1.size; have H3 := Lib.hid (And.intro r1 (And.intro h3 em)); clear r1 r2 r3 r4 h3 hol em)
            | (at_builtin; refine wpList_append_lies _ rfl _ _ 40 rfl w.heap.size 29 i0 _ 1 24 Tryz.underlying40 hi0 hz0 hz1 hz2 rfl (by decide) (.slice A3 q c3) q (its.map (·.1)) rfl (own_chg (F := Noth) HO3 (by repeat (with_reducible first | exact Chg.refl _ _ | refine chg_m ?_ _ | refine chg_g ?_ _ | refine chg_alloc ?_ _ | refine chg_drew ?_ | refine chg_drewN ?_ _ | refine chg_set ?_ _ _ _)) fun _ _ e => e) ⟨_, 0, none⟩ 1 1 [.slice A9 (n + 16 + 80) c9] rfl rfl (World.news_of_block (cs := #[.slice A9 (n + 16 + 80) c9]) (heap_alloc_hs _ _ _)) (by intro u hu; simp at hu; subst hu; rfl) (by omega) (by simp only [maxLen]; omega) (by omega) (by simp; omega) _ rfl ?_; intro g7 c7 w4 s1 s2 s3 s4))
          obtain ⟨r1, ⟨t1, t2, t3⟩, em⟩ := H3.out
          obtain ⟨hil, hits, htodo, hdone⟩ := HD.out
          obtain ⟨hj, hnn, ea⟩ := HJ.out
          have c34 : Chg (fun x => (Value.slice A3 q c3).ownBlock = some x) w3 w4 := (show Chg (fun x => (Value.slice A3 q c3).ownBlock = some x) w3 _ from (by repeat (with_reducible first | exact Chg.refl _ _ | refine chg_m ?_ _ | refine chg_g ?_ _ | refine chg_alloc ?_ _ | refine chg_drew ?_ | refine chg_drewN ?_ _ | refine chg_set ?_ _ _ _))).trans (Chg.of_grown s2) fun _ _ e => e
          have hA3 : ∀ x, (Value.slice A3 q c3).ownBlock = some x → w.heap.size ≤ x := fun x hx => (HO.out.lt x hx).1
          have hcA : Chg (FA ks 0) w w4 := (hmc.trans t1 fun x _ e => hfa x e).trans c34 fun x hx e => by have := hA3 x e; omega
          have hkeep : ∀ (v : Value) (nn : Nat) (xs : List Value), W1.ownsRow 0 3 1 v nn xs → (∀ x, v.ownBlock = some x → (Value.slice Aa n ca).ownBlock ≠ some x) → w4.ownsRow 0 3 1 v nn xs := fun v nn xs ho hne => by
            have h3 := own_chg ho t1 fun x hx e => hne x hx e
            exact own_chg h3 c34 fun x hx e => own_own h3 HO3 (by decide) x hx e
          have hoth' : ∀ (j : Nat) (a : Kept), k.its[j]? = some a → j ≠ q → ∀ x, a.a.ownBlock = some x → (Value.slice Aa n ca).ownBlock ≠ some x := fun j a ha hne x hx e => hoth j a ha hne x e hx
          have emm : marks mkInts q 0 (n + 16) ++ marks mkInts q (n + 16) 80 = marks mkInts q 0 (n + 16 + 80) := by rw [marks_add (n := n + 16), Nat.zero_add]
          rw [emm] at r1
          refine ⟨⟨q + 1, ⟨w4, hcA⟩, its ++ [(.slice A9 (n + 16 + 80) c9, n + 16 + 80, marks mkInts q 0 (n + 16 + 80))], by omega, by simp, rfl, by simp [hil], by simpa using s1, fun j it' hit' => ?_, fun j a ha hle => ?_, fun j a ha hlt' => ?_⟩, by simp [intOf]; omega⟩
          · by_cases hjq : j < q
            · rw [List.getElem?_append_left (by omega)] at hit'
              obtain ⟨b1, b2, b3, b4⟩ := hits j it' hit'
              refine ⟨b1, b2, hkeep _ _ _ b3 fun x hx e => ?_, fun x hx => ?_⟩
              · rcases b4 x hx with ⟨j', a, ha, hj', hax⟩ | h
                · exact hoth' j' a ha (by omega) x hax e
                · exact hFb x e h
              · rcases b4 x hx with ⟨j', a, ha, hj', hax⟩ | h
                · exact .inl ⟨j', a, ha, by omega, hax⟩
                · exact .inr h
            · have hjq' : j = q := by
                have := (List.getElem?_eq_some_iff.1 hit').1
                simp at this
                omega
              subst hjq'
              rw [List.getElem?_append_right (by omega)] at hit'
              simp [hil] at hit'
              subst hit'
              refine ⟨by simp; omega, rfl, own_chg r1 c34 fun x hx e => own_own r1 HO3 (by decide) x hx e, fun x hx => ?_⟩
              rcases t3 x hx with h | h
              · exact .inl ⟨_, it, hj, by omega, by rw [ea]; exact h⟩
              · exact .inr (by omega)
          · exact hkeep _ _ _ (htodo j a ha (by omega)) (hoth' j a ha (by omega))
          · by_cases hjq : j < q
            · exact ((hdone j a ha hjq).chg t1 fun x _ hx e => hoth' j a ha (by omega) x hx e).chg c34 fun x _ hx e => by
                have h1 := hFlt x ⟨k, HK.out, a, List.mem_of_getElem? ha, hx⟩
                have h2 := hA3 x e
                omega
            · obtain rfl : j = q := by omega
              rw [hj] at ha
              cases ha
              rw [ea, ← hnn]
              exact t2.chg c34 fun x _ hx e => hFb x hx (hA3 x e)
    · obtain rfl : q = m := by omega
      have hfin := book_grow HH.out (by decide) rfl HK.out mm.h fun j it hj => hdone j it hj (by have := (List.getElem?_eq_some_iff.1 hj).1; have := HM.out; omega)
      have hL : Lists mm.w (.slice A3 q c3) 1 its := ⟨by rw [hil]; exact SL.of_own hout, fun it hit => by
        obtain ⟨j, hj⟩ := List.getElem?_of_mem hit
        exact SL.of_own (hits j it hj).2.2.1⟩
      have hMk : Marked mkInts q its := ⟨hil.symm, h4, fun j it hj => ⟨(hits j it hj).1, (hits j it hj).2.1⟩⟩
      have hLB : ∀ x, LB (.slice A3 q c3) its x → FA ks 0 x ∨ w.heap.size ≤ x := fun x hx => by
        rcases hx with hx | ⟨it, hit, hx⟩
        · exact .inr (hout.lt x hx).1
        · obtain ⟨j, hj⟩ := List.getElem?_of_mem hit
          rcases (hits j it hj).2.2.2 x hx with ⟨j', a, ha, _, hax⟩ | h
          · exact .inl ⟨k, HK.out, a, List.mem_of_getElem? ha, hax⟩
          · exact .inr h
      have HF := Lib.hid (And.intro hfin (And.intro hL (And.intro hMk hLB)))
      clear hdone htodo hfin hits hout hL hMk hLB hil
      go_wp2
      exact bodyPost_ret (v := .slice A3 q c3) (by simp [results, Tryz.results53, go_sem]) rfl ⟨A3, q, c3, its, rfl, HF.out.2.1, HF.out.2.2.1, HF.out.2.2.2, mm, rfl, HF.out.1⟩

theorem growNotices_any (p : Nat) (ks : List Kind) (w : World) (h : BookP w p ks (CD 12) (fun q => 3 ≤ q)) : Calls Tryz.prog 56 #[.pointer (some ⟨p, 0, none⟩)] w (GrowTo p 3 3 mkNotices ks w) := by
  obtain ⟨i0, hi0, hz0, hz1, hz2⟩ := info_parts info_listNotices
  obtain ⟨ie, hi2, hy0, hy1, hy2⟩ := info_parts infoNotices
  obtain ⟨k, hk⟩ : ∃ k, ks[3]? = some k := ⟨_, List.getElem?_eq_getElem (by rw [h.len]; decide)⟩
  obtain ⟨h4, hv⟩ := h.vrow 3 _ k rfl hk
  obtain ⟨m, hm⟩ : ∃ m, m = k.its.length := ⟨_, rfl⟩
  rw [← hm] at h4 hv
  obtain ⟨A8, c8, ev⟩ := own_shape hv
  have c0 : w.cell? ⟨p, 6, none⟩ = some (.slice A8 m c8) := by rw [cell_of_row w p 6 _ _ _ h.heap]; exact (flat_get ks 3 k hk).1.trans (by rw [ev])
  have hvF : ∀ x, FA ks 3 x → k.v.ownBlock ≠ some x := fun x hx => (hx.far (h.apart x)).2.1 3 k hk
  rw [ev] at hv hvF
  have hpF : ¬ FA ks 3 p := fun e => (e.far (h.apart p)).1 rfl
  have hpl := (Array.getElem?_eq_some_iff.1 h.heap).1
  have i1 : Old p w := ⟨hpl⟩
  have iP : Out p (FA ks 3) := ⟨hpF⟩
  have hFlt : ∀ x, FA ks 3 x → x < w.heap.size := fun x hx => h.blt hx (Nat.le_refl _)
  have HM := Lib.hid hm
  have HH := Lib.hid h
  have HK := Lib.hid hk
  clear hm ev hk h
  go_enter Tryz.func56, Tryz.ntmps56
  go_wp2
  go_loopw [3, 4] (fun l' i' wr => ∃ (q : Nat) (mm : Muts (FA ks 3) w) (its : List (Value × Nat × List Value)), q ≤ m ∧ i' = .int .i64 q ∧ wr = mm.w ∧ its.length = q ∧ mm.w.ownsRow w.heap.size 33 1 l' q (its.map (·.1)) ∧
      (∀ (j : Nat) (it : Value × Nat × List Value), its[j]? = some it → it.2.1 ≤ 1500000000 ∧ it.2.2 = marks mkNotices j 0 it.2.1 ∧ mm.w.ownsRow 0 81 3 it.1 it.2.1 it.2.2 ∧ ∀ x, it.1.ownBlock = some x → (∃ (j' : Nat) (a : Kept), k.its[j']? = some a ∧ j' < q ∧ a.a.ownBlock = some x) ∨ w.heap.size ≤ x) ∧
      (∀ (j : Nat) (a : Kept), k.its[j]? = some a → q ≤ j → mm.w.ownsRow 0 81 3 a.a a.n (marks mkNotices j 0 a.n)) ∧ (∀ (j : Nat) (a : Kept), k.its[j]? = some a → j < q → SL mm.w a.a a.n 3 (marks mkNotices j 0 a.n))) (fun _ i' _ => m - (intOf i').toNat)
  case atStart => exact ⟨0, ⟨w, Chg.refl _ _⟩, [], Nat.zero_le _, rfl, rfl, rfl, World.ownsRow_nil _ _ _ _, fun j it hj => by simp at hj, fun j it hj _ => (HH.out.els 3 _ k j it rfl HK.out hj).2.1 (Nat.le_refl _), fun j it _ hlt => by omega⟩
  case round =>
    obtain ⟨q, mm, its, hq, rfl, rfl, hil, hout, hits, htodo, hdone⟩ := hrel
    obtain ⟨A3, c3, rfl⟩ := own_shape hout
    have j1 : Old p mm.w := inferInstance
    have e0 : mm.w.cell? ⟨p, 6, none⟩ = some (.slice A8 m c8) := by simp [go_sem, c0]
    by_cases hlt : q < m
    · obtain ⟨it, hj⟩ : ∃ it, k.its[q]? = some it := ⟨_, List.getElem?_eq_getElem (by have := HM.out; omega)⟩
      have ha := htodo q it hj (Nat.le_refl _)
      have hn := (HH.out.els 3 _ k q it rfl HK.out hj).1
      have hfa : ∀ x, it.a.ownBlock = some x → FA ks 3 x := fun x hx => ⟨k, HK.out, it, List.mem_of_getElem? hj, hx⟩
      have hoth : ∀ (j : Nat) (it' : Kept), k.its[j]? = some it' → j ≠ q → ∀ x, it.a.ownBlock = some x → it'.a.ownBlock ≠ some x := fun j it' hj' hne x hx => its_far HK.out (HH.out.apart x) hj hj' (fun e => hne e.symm) hx
      obtain ⟨n, hnn⟩ : ∃ n, n = it.n := ⟨_, rfl⟩
      rw [← hnn] at ha hn
      obtain ⟨Aa, ca, ea⟩ := own_shape ha
      rw [ea] at ha hfa hoth
      obtain ⟨g8, cap8, e8, _, l8⟩ := hv.form (by omega)
      cases e8
      have hg8 : ¬ FA ks 3 g8 := fun e => hvF g8 e rfl
      have iG : Out g8 (FA ks 3) := ⟨hg8⟩
      have i2 : Old g8 w := ⟨l8⟩
      have d0 : w.cell? ⟨g8, q, none⟩ = some (.slice Aa n ca) := by rw [hv.cellAt q (by omega), List.getElem?_map, hj, ← ea]; rfl
      have e1 : mm.w.cell? ⟨g8, q, none⟩ = some (.slice Aa n ca) := by simp [go_sem, d0]
      have j2 : Old g8 mm.w := inferInstance
      have hmark := fun (z u : Nat) (hz : z ≤ 1500000000) (hu : u ≤ 100) W => markNotices_any q z u W (by omega) (by omega)
      have hmc := mm.h
      have hsm := hmc.size
      have HJ := Lib.hid (And.intro hj (And.intro hnn ea))
      have HD := Lib.hid (And.intro hil (And.intro hits (And.intro htodo hdone)))
      have HO := Lib.hid hout
      have HA := Lib.hid ha
      generalize mm.w = W1 at *
      clear hil hits htodo hdone hj hnn ea c0 d0 mm hout ha
      have hAa := ha_shape HA.out
      have hAz : 0 < n → ∃ g, Aa = some ⟨g, 0, none⟩ := fun hp => by obtain ⟨g, _, e, _⟩ := HA.out.form hp; cases e; exact ⟨g, rfl⟩
      have hFb : ∀ x, (Value.slice Aa n ca).ownBlock = some x → w.heap.size ≤ x → False := fun x hx h => by have := hFlt x (hfa x hx); omega
      go_wp2
      go_loopw [5, 6] (fun l' z' wr => ∃ z : Nat, z ≤ 16 ∧ z' = .int .i64 z ∧ Chg (fun x => (Value.slice Aa n ca).ownBlock = some x) W1 wr ∧ wr.ownsRow 0 81 3 l' (n + z) (marks mkNotices q 0 (n + z)) ∧ SL wr (.slice Aa n ca) n 3 (marks mkNotices q 0 n) ∧ ∀ x, l'.ownBlock = some x → (Value.slice Aa n ca).ownBlock = some x ∨ W1.heap.size ≤ x) (fun _ z' _ => 16 - (intOf z').toNat)
      case atStart => exact ⟨0, by omega, rfl, Chg.refl _ _, HA.out, SL.of_own HA.out, fun x hx => .inl hx⟩
      case round =>
        obtain ⟨z, hz, rfl, hcx, hol, hsl, hbl⟩ := hrel
        obtain ⟨A5, c5, rfl⟩ := own_shape hol
        have hsx := hcx.size
        have HX := Lib.hid (And.intro hcx (And.intro hol (And.intro hsl hbl)))
        by_cases hz16 : z < 16
        · clear hcx hol hsl hbl
          go_wp2_with (first
            | (go_at_call 114; refine (hmark (n + z) 1 (by omega) (by omega) _).mono ?_; rintro e w2 ⟨Ab, cb, rfl, hob, g1, rfl⟩; obtain ⟨gb, cap1, e9, _, lgb⟩ := hob.form (by omega); cases e9; have hg1 := g1.h)
            | (at_builtin; refine wpList_append_keep _ rfl _ _ 33 rfl 0 81 ie _ 3 24 Tryz.underlying33 hi2 hy0 hy1 hy2 rfl (by decide) (.slice A5 (n + z) c5) (n + z) (marks mkNotices q 0 (n + z)) rfl (own_chg (F := Noth) HX.out.2.1 (by repeat (with_reducible first | exact hg1 | exact Chg.refl _ _ | refine chg_m ?_ _ | refine chg_g ?_ _ | refine chg_alloc ?_ _ | refine chg_drew ?_ | refine chg_drewN ?_ _ | refine chg_set ?_ _ _ _)) fun _ _ e => e) ⟨gb, 0, none⟩ 1 cb (marks mkNotices q (n + z) 1) rfl (marks_len mkNotices_len) (hob.cells (g := gb) rfl) (oneNotices (marks_goodNotices _ _ _)) (by simp only [maxLen]; omega) (by omega) (Nat.zero_le _) ?_; intro v9 w3 r1 r2 r3 r4; obtain ⟨A9, c9, rfl⟩ := own_shape r1))
          have hol := HX.out.2.1
          have em : marks mkNotices q 0 (n + z) = marks mkNotices q 0 n ++ marks mkNotices q n z := by rw [marks_add, Nat.zero_add]
          have h3 := grow_once HX.out.1 hg1 (P := marks mkNotices q 0 n) (R := marks mkNotices q n z) (by rw [← em]; exact hol) HX.out.2.2.1 HX.out.2.2.2 hAa hAz (by omega) r2 (by rw [← em]; exact r3) r4
          exact ⟨⟨z + 1, by omega, by simp, h3.1, by rw [← Nat.add_assoc, marks_add (n := n + z), Nat.zero_add]; exact r1, h3.2.1, h3.2.2⟩, by simp [intOf]; omega⟩
        · obtain rfl : z = 16 := by omega
          clear hcx hol hsl hbl
          go_wp2_with (first
            | (go_at_call 114; refine (hmark (n + 16) 80 (by omega) (by omega) _).mono ?_; rintro e w2 ⟨Ab, cb, rfl, hob, g1, rfl⟩; obtain ⟨gb, cap1, e9, _, lgb⟩ := hob.form (by omega); cases e9; have hg1 := g1.h)
            | (at_builtin; refine wpList_append_keep _ rfl _ _ 33 rfl 0 81 ie _ 3 24 Tryz.underlying33 hi2 hy0 hy1 hy2 rfl (by decide) (.slice A5 (n + 16) c5) (n + 16) (marks mkNotices q 0 (n + 16)) rfl (own_chg (F := Noth) HX.out.2.1 (by repeat (with_reducible first | exact hg1 | exact Chg.refl _ _ | refine chg_m ?_ _ | refine chg_g ?_ _ | refine chg_alloc ?_ _ | refine chg_drew ?_ | refine chg_drewN ?_ _ | refine chg_set ?_ _ _ _)) fun _ _ e => e) ⟨gb, 0, none⟩ 80 cb (marks mkNotices q (n + 16) 80) rfl (marks_len mkNotices_len) (hob.cells (g := gb) rfl) (oneNotices (marks_goodNotices _ _ _)) (by simp only [maxLen]; omega) (by omega) (Nat.zero_le _) ?_; intro v9 w3 r1 r2 r3 r4; obtain ⟨A9, c9, rfl⟩ := own_shape r1; have hol := HX.out.2.1; have em : marks mkNotices q 0 (n + 16) = marks mkNotices q 0 n ++ marks mkNotices q n 16 := (by rw [marks_add, Nat.zero_add]); have h3 := grow_once HX.out.1 hg1 (P := marks mkNotices q 0 n) (R := marks mkNotices q n 16) (by rw [← em]; exact hol) HX.out.2.2.1 HX.out.2.2.2 hAa hAz (by omega) r2 (by rw [← em]; exact r3) r4; have HO3 := own_chg HO.out h3.1 (fun x hx e => hFb x e (HO.out.lt x hx).1); have hs3 := h3.1.size; have H3 := Lib.hid (And.intro r1 (And.intro h3 em)); clear r1 r2 r3 r4 h3 hol em)
            | (at_builtin; refine wpList_append_lies _ rfl _ _ 43 rfl w.heap.size 33 i0 _ 1 24 Tryz.underlying43 hi0 hz0 hz1 hz2 rfl (by decide) (.slice A3 q c3) q (its.map (·.1)) rfl (own_chg (F := Noth) HO3 (by repeat (with_reducible first | exact Chg.refl _ _ | refine chg_m ?_ _ | refine chg_g ?_ _ | refine chg_alloc ?_ _ | refine chg_drew ?_ | refine chg_drewN ?_ _ | refine chg_set ?_ _ _ _)) fun _ _ e => e) ⟨_, 0, none⟩ 1 1 [.slice A9 (n + 16 + 80) c9] rfl rfl (World.news_of_block (cs := #[.slice A9 (n + 16 + 80) c9]) (heap_alloc_hs _ _ _)) (by intro u hu; simp at hu; subst hu; rfl) (by omega) (by simp only [maxLen]; omega) (by omega) (by simp; omega) _ rfl ?_; intro g7 c7 w4 s1 s2 s3 s4))
          obtain ⟨r1, ⟨t1, t2, t3⟩, em⟩ := H3.out
          obtain ⟨hil, hits, htodo, hdone⟩ := HD.out
          obtain ⟨hj, hnn, ea⟩ := HJ.out
          have c34 : Chg (fun x => (Value.slice A3 q c3).ownBlock = some x) w3 w4 := (show Chg (fun x => (Value.slice A3 q c3).ownBlock = some x) w3 _ from (by repeat (with_reducible first | exact Chg.refl _ _ | refine chg_m ?_ _ | refine chg_g ?_ _ | refine chg_alloc ?_ _ | refine chg_drew ?_ | refine chg_drewN ?_ _ | refine chg_set ?_ _ _ _))).trans (Chg.of_grown s2) fun _ _ e => e
          have hA3 : ∀ x, (Value.slice A3 q c3).ownBlock = some x → w.heap.size ≤ x := fun x hx => (HO.out.lt x hx).1
          have hcA : Chg (FA ks 3) w w4 := (hmc.trans t1 fun x _ e => hfa x e).trans c34 fun x hx e => by have := hA3 x e; omega
          have hkeep : ∀ (v : Value) (nn : Nat) (xs : List Value), W1.ownsRow 0 81 3 v nn xs → (∀ x, v.ownBlock = some x → (Value.slice Aa n ca).ownBlock ≠ some x) → w4.ownsRow 0 81 3 v nn xs := fun v nn xs ho hne => by
            have h3 := own_chg ho t1 fun x hx e => hne x hx e
            exact own_chg h3 c34 fun x hx e => own_own h3 HO3 (by decide) x hx e
          have hoth' : ∀ (j : Nat) (a : Kept), k.its[j]? = some a → j ≠ q → ∀ x, a.a.ownBlock = some x → (Value.slice Aa n ca).ownBlock ≠ some x := fun j a ha hne x hx e => hoth j a ha hne x e hx
          have emm : marks mkNotices q 0 (n + 16) ++ marks mkNotices q (n + 16) 80 = marks mkNotices q 0 (n + 16 + 80) := by rw [marks_add (n := n + 16), Nat.zero_add]
          rw [emm] at r1
          refine ⟨⟨q + 1, ⟨w4, hcA⟩, its ++ [(.slice A9 (n + 16 + 80) c9, n + 16 + 80, marks mkNotices q 0 (n + 16 + 80))], by omega, by simp, rfl, by simp [hil], by simpa using s1, fun j it' hit' => ?_, fun j a ha hle => ?_, fun j a ha hlt' => ?_⟩, by simp [intOf]; omega⟩
          · by_cases hjq : j < q
            · rw [List.getElem?_append_left (by omega)] at hit'
              obtain ⟨b1, b2, b3, b4⟩ := hits j it' hit'
              refine ⟨b1, b2, hkeep _ _ _ b3 fun x hx e => ?_, fun x hx => ?_⟩
              · rcases b4 x hx with ⟨j', a, ha, hj', hax⟩ | h
                · exact hoth' j' a ha (by omega) x hax e
                · exact hFb x e h
              · rcases b4 x hx with ⟨j', a, ha, hj', hax⟩ | h
                · exact .inl ⟨j', a, ha, by omega, hax⟩
                · exact .inr h
            · have hjq' : j = q := by
                have := (List.getElem?_eq_some_iff.1 hit').1
                simp at this
                omega
              subst hjq'
              rw [List.getElem?_append_right (by omega)] at hit'
              simp [hil] at hit'
              subst hit'
              refine ⟨by simp; omega, rfl, own_chg r1 c34 fun x hx e => own_own r1 HO3 (by decide) x hx e, fun x hx => ?_⟩
              rcases t3 x hx with h | h
              · exact .inl ⟨_, it, hj, by omega, by rw [ea]; exact h⟩
              · exact .inr (by omega)
          · exact hkeep _ _ _ (htodo j a ha (by omega)) (hoth' j a ha (by omega))
          · by_cases hjq : j < q
            · exact ((hdone j a ha hjq).chg t1 fun x _ hx e => hoth' j a ha (by omega) x hx e).chg c34 fun x _ hx e => by
                have h1 := hFlt x ⟨k, HK.out, a, List.mem_of_getElem? ha, hx⟩
                have h2 := hA3 x e
                omega
            · obtain rfl : j = q := by omega
              rw [hj] at ha
              cases ha
              rw [ea, ← hnn]
              exact t2.chg c34 fun x _ hx e => hFb x hx (hA3 x e)
    · obtain rfl : q = m := by omega
      have hfin := book_grow HH.out (by decide) rfl HK.out mm.h fun j it hj => hdone j it hj (by have := (List.getElem?_eq_some_iff.1 hj).1; have := HM.out; omega)
      have hL : Lists mm.w (.slice A3 q c3) 3 its := ⟨by rw [hil]; exact SL.of_own hout, fun it hit => by
        obtain ⟨j, hj⟩ := List.getElem?_of_mem hit
        exact SL.of_own (hits j it hj).2.2.1⟩
      have hMk : Marked mkNotices q its := ⟨hil.symm, h4, fun j it hj => ⟨(hits j it hj).1, (hits j it hj).2.1⟩⟩
      have hLB : ∀ x, LB (.slice A3 q c3) its x → FA ks 3 x ∨ w.heap.size ≤ x := fun x hx => by
        rcases hx with hx | ⟨it, hit, hx⟩
        · exact .inr (hout.lt x hx).1
        · obtain ⟨j, hj⟩ := List.getElem?_of_mem hit
          rcases (hits j it hj).2.2.2 x hx with ⟨j', a, ha, _, hax⟩ | h
          · exact .inl ⟨k, HK.out, a, List.mem_of_getElem? ha, hax⟩
          · exact .inr h
      have HF := Lib.hid (And.intro hfin (And.intro hL (And.intro hMk hLB)))
      clear hdone htodo hfin hits hout hL hMk hLB hil
      go_wp2
      exact bodyPost_ret (v := .slice A3 q c3) (by simp [results, Tryz.results56, go_sem]) rfl ⟨A3, q, c3, its, rfl, HF.out.2.1, HF.out.2.2.1, HF.out.2.2.2, mm, rfl, HF.out.1⟩

theorem growChars_any (p : Nat) (ks : List Kind) (w : World) (h : BookP w p ks (CD 12) (fun q => 1 ≤ q)) : Calls Tryz.prog 54 #[.pointer (some ⟨p, 0, none⟩)] w fun e w' => e = .returned (.slice none 0 0) ∧ w' = w ∧ BookP w p ks (CD 12) (fun q => 2 ≤ q) := by
  obtain ⟨k, hk⟩ : ∃ k, ks[1]? = some k := ⟨_, List.getElem?_eq_getElem (by rw [h.len]; decide)⟩
  have he := h.few 1 _ k rfl hk rfl
  obtain ⟨_, hv⟩ := h.vrow 1 _ k rfl hk
  rw [he] at hv
  obtain ⟨A8, c8, ev⟩ := own_shape hv
  have c0 : w.cell? ⟨p, 2, none⟩ = some (.slice A8 0 c8) := by rw [cell_of_row w p 2 _ _ _ h.heap]; exact (flat_get ks 1 k hk).1.trans (by rw [ev]; rfl)
  have i1 : Old p w := ⟨(Array.getElem?_eq_some_iff.1 h.heap).1⟩
  have H2 := book_grow h (by decide) rfl hk (Chg.refl _ _) fun j it hj => by rw [he] at hj; simp at hj
  have HH := Lib.hid H2
  clear hv he hk h H2
  go_enter Tryz.func54, Tryz.ntmps54
  go_wp2
  refine wp_loop_rounds 1 ?_
  rw [rounds_succ]
  go_wp2
  exact bodyPost_ret (v := .slice none 0 0) (by simp [results, Tryz.results54, go_sem]) rfl ⟨rfl, rfl, HH.out⟩

theorem growTokens_any (p : Nat) (ks : List Kind) (w : World) (h : BookP w p ks (CD 12) (fun q => 2 ≤ q)) : Calls Tryz.prog 55 #[.pointer (some ⟨p, 0, none⟩)] w fun e w' => e = .returned (.slice none 0 0) ∧ w' = w ∧ BookP w p ks (CD 12) (fun q => 3 ≤ q) := by
  obtain ⟨k, hk⟩ : ∃ k, ks[2]? = some k := ⟨_, List.getElem?_eq_getElem (by rw [h.len]; decide)⟩
  have he := h.few 2 _ k rfl hk rfl
  obtain ⟨_, hv⟩ := h.vrow 2 _ k rfl hk
  rw [he] at hv
  obtain ⟨A8, c8, ev⟩ := own_shape hv
  have c0 : w.cell? ⟨p, 4, none⟩ = some (.slice A8 0 c8) := by rw [cell_of_row w p 4 _ _ _ h.heap]; exact (flat_get ks 2 k hk).1.trans (by rw [ev]; rfl)
  have i1 : Old p w := ⟨(Array.getElem?_eq_some_iff.1 h.heap).1⟩
  have H2 := book_grow h (by decide) rfl hk (Chg.refl _ _) fun j it hj => by rw [he] at hj; simp at hj
  have HH := Lib.hid H2
  clear hv he hk h H2
  go_enter Tryz.func55, Tryz.ntmps55
  go_wp2
  refine wp_loop_rounds 1 ?_
  rw [rounds_succ]
  go_wp2
  exact bodyPost_ret (v := .slice none 0 0) (by simp [results, Tryz.results55, go_sem]) rfl ⟨rfl, rfl, HH.out⟩

theorem growSets_any (p : Nat) (ks : List Kind) (w : World) (h : BookP w p ks (CD 12) (fun q => 5 ≤ q)) : Calls Tryz.prog 58 #[.pointer (some ⟨p, 0, none⟩)] w fun e w' => e = .returned (.slice none 0 0) ∧ w' = w ∧ BookP w p ks (CD 12) (fun q => 6 ≤ q) := by
  obtain ⟨k, hk⟩ : ∃ k, ks[5]? = some k := ⟨_, List.getElem?_eq_getElem (by rw [h.len]; decide)⟩
  have he := h.few 5 _ k rfl hk rfl
  obtain ⟨_, hv⟩ := h.vrow 5 _ k rfl hk
  rw [he] at hv
  obtain ⟨A8, c8, ev⟩ := own_shape hv
  have c0 : w.cell? ⟨p, 10, none⟩ = some (.slice A8 0 c8) := by rw [cell_of_row w p 10 _ _ _ h.heap]; exact (flat_get ks 5 k hk).1.trans (by rw [ev]; rfl)
  have i1 : Old p w := ⟨(Array.getElem?_eq_some_iff.1 h.heap).1⟩
  have H2 := book_grow h (by decide) rfl hk (Chg.refl _ _) fun j it hj => by rw [he] at hj; simp at hj
  have HH := Lib.hid H2
  clear hv he hk h H2
  go_enter Tryz.func58, Tryz.ntmps58
  go_wp2
  refine wp_loop_rounds 1 ?_
  rw [rounds_succ]
  go_wp2
  exact bodyPost_ret (v := .slice none 0 0) (by simp [results, Tryz.results58, go_sem]) rfl ⟨rfl, rfl, HH.out⟩

theorem growEvents_any (p : Nat) (ks : List Kind) (w : World) (h : BookP w p ks (CD 12) (fun q => 6 ≤ q)) : Calls Tryz.prog 59 #[.pointer (some ⟨p, 0, none⟩)] w fun e w' => e = .returned (.slice none 0 0) ∧ w' = w ∧ BookP w p ks (CD 12) (fun q => 7 ≤ q) := by
  obtain ⟨k, hk⟩ : ∃ k, ks[6]? = some k := ⟨_, List.getElem?_eq_getElem (by rw [h.len]; decide)⟩
  have he := h.few 6 _ k rfl hk rfl
  obtain ⟨_, hv⟩ := h.vrow 6 _ k rfl hk
  rw [he] at hv
  obtain ⟨A8, c8, ev⟩ := own_shape hv
  have c0 : w.cell? ⟨p, 12, none⟩ = some (.slice A8 0 c8) := by rw [cell_of_row w p 12 _ _ _ h.heap]; exact (flat_get ks 6 k hk).1.trans (by rw [ev]; rfl)
  have i1 : Old p w := ⟨(Array.getElem?_eq_some_iff.1 h.heap).1⟩
  have H2 := book_grow h (by decide) rfl hk (Chg.refl _ _) fun j it hj => by rw [he] at hj; simp at hj
  have HH := Lib.hid H2
  clear hv he hk h H2
  go_enter Tryz.func59, Tryz.ntmps59
  go_wp2
  refine wp_loop_rounds 1 ?_
  rw [rounds_succ]
  go_wp2
  exact bodyPost_ret (v := .slice none 0 0) (by simp [results, Tryz.results59, go_sem]) rfl ⟨rfl, rfl, HH.out⟩

theorem growErrs_any (p : Nat) (ks : List Kind) (w : World) (h : BookP w p ks (CD 12) (fun q => 7 ≤ q)) : Calls Tryz.prog 60 #[.pointer (some ⟨p, 0, none⟩)] w fun e w' => e = .returned (.slice none 0 0) ∧ w' = w ∧ BookP w p ks (CD 12) (fun q => 8 ≤ q) := by
  obtain ⟨k, hk⟩ : ∃ k, ks[7]? = some k := ⟨_, List.getElem?_eq_getElem (by rw [h.len]; decide)⟩
  have he := h.few 7 _ k rfl hk rfl
  obtain ⟨_, hv⟩ := h.vrow 7 _ k rfl hk
  rw [he] at hv
  obtain ⟨A8, c8, ev⟩ := own_shape hv
  have c0 : w.cell? ⟨p, 14, none⟩ = some (.slice A8 0 c8) := by rw [cell_of_row w p 14 _ _ _ h.heap]; exact (flat_get ks 7 k hk).1.trans (by rw [ev]; rfl)
  have i1 : Old p w := ⟨(Array.getElem?_eq_some_iff.1 h.heap).1⟩
  have H2 := book_grow h (by decide) rfl hk (Chg.refl _ _) fun j it hj => by rw [he] at hj; simp at hj
  have HH := Lib.hid H2
  clear hv he hk h H2
  go_enter Tryz.func60, Tryz.ntmps60
  go_wp2
  refine wp_loop_rounds 1 ?_
  rw [rounds_succ]
  go_wp2
  exact bodyPost_ret (v := .slice none 0 0) (by simp [results, Tryz.results60, go_sem]) rfl ⟨rfl, rfl, HH.out⟩

theorem growOuts_any (p : Nat) (ks : List Kind) (w : World) (h : BookP w p ks (CD 12) (fun q => 8 ≤ q)) : Calls Tryz.prog 61 #[.pointer (some ⟨p, 0, none⟩)] w fun e w' => e = .returned (.slice none 0 0) ∧ w' = w ∧ BookP w p ks (CD 12) (fun q => 9 ≤ q) := by
  obtain ⟨k, hk⟩ : ∃ k, ks[8]? = some k := ⟨_, List.getElem?_eq_getElem (by rw [h.len]; decide)⟩
  have he := h.few 8 _ k rfl hk rfl
  obtain ⟨_, hv⟩ := h.vrow 8 _ k rfl hk
  rw [he] at hv
  obtain ⟨A8, c8, ev⟩ := own_shape hv
  have c0 : w.cell? ⟨p, 16, none⟩ = some (.slice A8 0 c8) := by rw [cell_of_row w p 16 _ _ _ h.heap]; exact (flat_get ks 8 k hk).1.trans (by rw [ev]; rfl)
  have i1 : Old p w := ⟨(Array.getElem?_eq_some_iff.1 h.heap).1⟩
  have H2 := book_grow h (by decide) rfl hk (Chg.refl _ _) fun j it hj => by rw [he] at hj; simp at hj
  have HH := Lib.hid H2
  clear hv he hk h H2
  go_enter Tryz.func61, Tryz.ntmps61
  go_wp2
  refine wp_loop_rounds 1 ?_
  rw [rounds_succ]
  go_wp2
  exact bodyPost_ret (v := .slice none 0 0) (by simp [results, Tryz.results61, go_sem]) rfl ⟨rfl, rfl, HH.out⟩

theorem growSteps_any (p : Nat) (ks : List Kind) (w : World) (h : BookP w p ks (CD 12) (fun q => 10 ≤ q)) : Calls Tryz.prog 63 #[.pointer (some ⟨p, 0, none⟩)] w fun e w' => e = .returned (.slice none 0 0) ∧ w' = w ∧ BookP w p ks (CD 12) (fun q => 11 ≤ q) := by
  obtain ⟨k, hk⟩ : ∃ k, ks[10]? = some k := ⟨_, List.getElem?_eq_getElem (by rw [h.len]; decide)⟩
  have he := h.few 10 _ k rfl hk rfl
  obtain ⟨_, hv⟩ := h.vrow 10 _ k rfl hk
  rw [he] at hv
  obtain ⟨A8, c8, ev⟩ := own_shape hv
  have c0 : w.cell? ⟨p, 20, none⟩ = some (.slice A8 0 c8) := by rw [cell_of_row w p 20 _ _ _ h.heap]; exact (flat_get ks 10 k hk).1.trans (by rw [ev]; rfl)
  have i1 : Old p w := ⟨(Array.getElem?_eq_some_iff.1 h.heap).1⟩
  have H2 := book_grow h (by decide) rfl hk (Chg.refl _ _) fun j it hj => by rw [he] at hj; simp at hj
  have HH := Lib.hid H2
  clear hv he hk h H2
  go_enter Tryz.func63, Tryz.ntmps63
  go_wp2
  refine wp_loop_rounds 1 ?_
  rw [rounds_succ]
  go_wp2
  exact bodyPost_ret (v := .slice none 0 0) (by simp [results, Tryz.results63, go_sem]) rfl ⟨rfl, rfl, HH.out⟩

theorem growRows_any (p : Nat) (ks : List Kind) (w : World) (h : BookP w p ks (CD 12) (fun q => 11 ≤ q)) : Calls Tryz.prog 64 #[.pointer (some ⟨p, 0, none⟩)] w fun e w' => e = .returned (.slice none 0 0) ∧ w' = w ∧ BookP w p ks (CD 12) (fun q => 12 ≤ q) := by
  obtain ⟨k, hk⟩ : ∃ k, ks[11]? = some k := ⟨_, List.getElem?_eq_getElem (by rw [h.len]; decide)⟩
  have he := h.few 11 _ k rfl hk rfl
  obtain ⟨_, hv⟩ := h.vrow 11 _ k rfl hk
  rw [he] at hv
  obtain ⟨A8, c8, ev⟩ := own_shape hv
  have c0 : w.cell? ⟨p, 22, none⟩ = some (.slice A8 0 c8) := by rw [cell_of_row w p 22 _ _ _ h.heap]; exact (flat_get ks 11 k hk).1.trans (by rw [ev]; rfl)
  have i1 : Old p w := ⟨(Array.getElem?_eq_some_iff.1 h.heap).1⟩
  have H2 := book_grow h (by decide) rfl hk (Chg.refl _ _) fun j it hj => by rw [he] at hj; simp at hj
  have HH := Lib.hid H2
  clear hv he hk h H2
  go_enter Tryz.func64, Tryz.ntmps64
  go_wp2
  refine wp_loop_rounds 1 ?_
  rw [rounds_succ]
  go_wp2
  exact bodyPost_ret (v := .slice none 0 0) (by simp [results, Tryz.results64, go_sem]) rfl ⟨rfl, rfl, HH.out⟩
end Go.Proofs.YteemkceceaabkaaGreat
