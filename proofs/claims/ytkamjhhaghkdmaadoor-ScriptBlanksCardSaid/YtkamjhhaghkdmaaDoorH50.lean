/- script.Parse where the text has words. -/
import Derived.Test.YtkamjhhaghkdmaaDoorH48
import Derived.Test.YtkamjhhaghkdmaaDoorH49
namespace Go.Proofs.YtkamjhhaghkdmaaDoor
open Go.RowKit Go.Ear Go.Shelf
set_option maxHeartbeats 4000000
set_option maxRecDepth 100000
set_option linter.unusedSimpArgs false
set_option linter.unusedVariables false
theorem SS.base {w : World} {base base' : Nat} {gs : Value} {vs : List Value} {L : List StepS} (h : SS w base gs vs L) (hb : base' ≤ base) : SS w base' gs vs L :=
  ⟨own_base h.own hb, h.len, fun i s v hs hv => by
    rcases h.data i s v hs hv with h1 | ⟨g, cap, cur, h1, h2, h3⟩
    · exact .inl h1
    · exact .inr ⟨g, cap, cur, h1, Nat.le_trans hb h2, h3⟩, h.apart⟩
theorem parse_ok (t : ByteArray) (w : World) (rows : List (Nat × List Wd × Nat)) (hR : scan t.data.toList = .ok rows) (hk : ∀ r ∈ rows, ∀ x ∈ r.2.1, x.kind ≠ 1) (hsm : ∀ r ∈ full rows, r.2 ≠ [] ∧ r.2.length ≤ 100000 ∧ ∀ y ∈ r.2, y.text.length ≤ 100000) :
    Calls Tryd.prog 5 #[.string t] w (ParsePost w (parseRows (full rows))) := by
  have hmf : ∀ (fn : Fn) (first cap : Array Value) (w : World), (Instr.makeFunc fn first cap).run Tryd.prog w = .ok (.func fn first cap) w := fun _ _ _ _ => rfl
  have hsc := fun W => scan_any t W
  rw [hR] at hsc
  clear hR
  go_enter_defers Tryd.func5, Tryd.ntmps5
  go_wp2_with fail
  go_at_call 7
  refine (hsc _).mono ?_
  rintro e X ⟨v, rfl, hc, hown, hle⟩
  obtain ⟨A, c, rfl⟩ := own_shape hown
  obtain ⟨m, rfl⟩ := muts_ex hc
  have HO := Lib.hid (And.intro hown (And.intro hle hc))
  obtain ⟨N, hN⟩ : ∃ N, (toks rows).length = N := ⟨_, rfl⟩
  have HN := Lib.hid hN
  rw [hN]
  clear hc hsc hown hle hN
  go_wp2_with fail
  have hV : Res ((((w.alloc (.cells #[.string ⟨#[]⟩, .int .i64 0] 23)).alloc (.cells #[.slice none 0 0] 24)).alloc (.cells #[.int .i64 0] 25)).alloc (.cells #[.int .i64 0] 3)) w.heap.size ⟨#[]⟩ 0 (.slice none 0 0) 0 0 :=
    ⟨(Below.heap_alloc _ _ _ (by first | (simp; done) | (simp; omega))).trans ((Below.heap_alloc _ _ _ (by first | (simp; done) | (simp; omega))).trans ((Below.heap_alloc _ _ _ (by first | (simp; done) | (simp; omega))).trans (heap_alloc_new _ _))), (Below.heap_alloc _ _ _ (by first | (simp; done) | (simp; omega))).trans ((Below.heap_alloc _ _ _ (by first | (simp; done) | (simp; omega))).trans (heap_hs _ _ (w.heap.size + 1))), (Below.heap_alloc _ _ _ (by first | (simp; done) | (simp; omega))).trans (heap_hs _ _ (w.heap.size + 1 + 1)), heap_hs _ _ (w.heap.size + 1 + 1 + 1)⟩
  have hm := hV.grow m.h
  have hm2 : Res ((m.w.setCell ⟨w.heap.size + 1 + 1, 0, none⟩ (.int .i64 0)).setCell ⟨w.heap.size + 1 + 1 + 1, 0, none⟩ (.int .i64 0)) w.heap.size ⟨#[]⟩ 0 (.slice none 0 0) 0 0 :=
    ⟨(heap_set_far _ _ _ _ (by omega)).trans ((heap_set_far _ _ _ _ (by omega)).trans hm.r0), (heap_set_far _ _ _ _ (by omega)).trans ((heap_set_far _ _ _ _ (by omega)).trans hm.r1), (heap_set_far _ _ _ _ (by omega)).trans ((heap_setCell_same _ _ 0 _ _ _ hm.r2).trans rfl), (heap_setCell_same _ _ 0 _ _ _ ((heap_set_far _ _ _ _ (by omega)).trans hm.r3)).trans rfl⟩
  have hF2 : Chg (FRes w.heap.size) m.w ((m.w.setCell ⟨w.heap.size + 1 + 1, 0, none⟩ (.int .i64 0)).setCell ⟨w.heap.size + 1 + 1 + 1, 0, none⟩ (.int .i64 0)) :=
    ((chg_set_b (b := w.heap.size + 1 + 1) (Chg.refl _ _)).mono fun i _ e => by subst e; exact ⟨by omega, by omega⟩).trans (G := FRes w.heap.size) ((chg_set_b (b := w.heap.size + 1 + 1 + 1) (Chg.refl _ _)).mono fun i _ e => by subst e; exact ⟨by omega, by omega⟩) (fun _ _ h => h)
  have hVs : ((((w.alloc (.cells #[.string ⟨#[]⟩, .int .i64 0] 23)).alloc (.cells #[.slice none 0 0] 24)).alloc (.cells #[.int .i64 0] 25)).alloc (.cells #[.int .i64 0] 3)).heap.size = w.heap.size + 1 + 1 + 1 + 1 := by simp
  have hown2 := own_chg HO.out.1 hF2 (fun k hk hf => by have h1 := (HO.out.1.lt k hk).1; rw [hVs] at h1; have := hf.2; omega)
  have hsz0 : ((m.w.setCell ⟨w.heap.size + 1 + 1, 0, none⟩ (.int .i64 0)).setCell ⟨w.heap.size + 1 + 1 + 1, 0, none⟩ (.int .i64 0)).heap.size = m.w.heap.size := by simp
  have hmsz := m.h.size
  rw [hVs] at hmsz
  have hcV : Chg Noth w m.w := (chg_alloc (chg_alloc (chg_alloc (chg_alloc (Chg.refl _ _) _) _) _) _).trans m.h (fun _ _ h => h)
  have hcm2 : Chg Noth w ((m.w.setCell ⟨w.heap.size + 1 + 1, 0, none⟩ (.int .i64 0)).setCell ⟨w.heap.size + 1 + 1 + 1, 0, none⟩ (.int .i64 0)) := hcV.trans hF2 (fun i hi e => by have := e.1; omega)
  generalize ((m.w.setCell ⟨w.heap.size + 1 + 1, 0, none⟩ (.int .i64 0)).setCell ⟨w.heap.size + 1 + 1 + 1, 0, none⟩ (.int .i64 0)) = Y at *
  rw [← hsz0] at hmsz ⊢
  have hY := hm2.grow (chg_alloc (Chg.refl _ _) rdZero)
  have hcY : Chg Noth w (Y.alloc rdZero) := chg_alloc hcm2 _
  have hsl : SL (Y.alloc rdZero) (.slice A N c) (toks rows).length 4 (flT (toks rows)) := by
    have := (SL.of_own hown2).grow (chg_alloc (Chg.refl _ _) rdZero)
    rwa [HN.out] at this ⊢
  have hp : (Y.alloc rdZero).heap[Y.heap.size]? = some rdZero := heap_alloc_new _ _
  have hsy : (Y.alloc rdZero).heap.size = Y.heap.size + 1 := by simp
  clear hm2 hm hV hF2 hVs hown2 hsz0 hcV hcm2
  have hscr := script_v Y.heap.size A c rows (Y.alloc rdZero) hk HO.out.2.1 (by rw [HN.out] at hsl ⊢; exact hsl) hsm hp
  rw [HN.out] at hscr
  obtain ⟨Z, hZ⟩ : ∃ Z, Y.alloc rdZero = Z := ⟨_, rfl⟩
  have hZ' := hZ
  unfold rdZero at hZ'
  rw [hZ'] 
  rw [hZ] at hscr hY hcY hsy
  obtain ⟨pp, hpp⟩ : ∃ pp, Y.heap.size = pp := ⟨_, rfl⟩
  rw [hpp] at hscr hsy hmsz ⊢
  clear hZ' hZ hsl hp hpp HO
  go_at_call 10
  refine hscr.mono ?_
  rintro e X ⟨hcX, hpost⟩
  have hRX : Res X w.heap.size ⟨#[]⟩ 0 (.slice none 0 0) 0 0 := ⟨blk_not hcX hY.r0 (by omega), blk_not hcX hY.r1 (by omega), blk_not hcX hY.r2 (by omega), blk_not hcX hY.r3 (by omega)⟩
  have hwX : Chg Noth w X := hcY.trans hcX (fun i hi e => by omega)
  cases hPR : parseRows (full rows) with
  | error x =>
    obtain ⟨er, no⟩ := x
    rw [hPR] at hpost
    subst hpost
    clear hscr
    go_wp2_with fail
    refine leaves_cons (f := 9) (args := #[.pointer (some ⟨w.heap.size, 0, none⟩), .pointer (some ⟨w.heap.size + 1, 0, none⟩), .pointer (some ⟨w.heap.size + 1 + 1, 0, none⟩), .pointer (some ⟨w.heap.size + 1 + 1 + 1, 0, none⟩)]) (by simp) (by simp [go_sem]) ?_
    refine (caught w.heap.size er no ⟨#[]⟩ 0 none 0 0 0 0 X hRX).mono ?_
    rintro e u' w'' ⟨rfl, rfl, hc2, hr2⟩
    obtain ⟨d0, d1, d2, d3, d4⟩ := hr2.cells
    have HP : ParsePost w (.error (er, no)) (.returned (.tuple #[.agg #[.string ⟨#[]⟩, .int .i64 0], .slice none 0 0, .int .i64 er, .int .i64 (no : Int)])) w'' := ⟨hwX.trans hc2 (fun i hi e => by have := e.1; omega), rfl⟩
    have HP := Lib.hid HP
    simp [Leaves, settle, results, refuse, Tryd.results5, go_sem, d0, d1, d2, d3, d4]
    exact HP.out
  | ok r0 =>
    obtain ⟨b, f, L⟩ := r0
    rw [hPR] at hpost
    obtain ⟨rfl, l, gs, vs, hRd⟩ := hpost
    obtain ⟨t', A', c', m', hblk, _⟩ := hRd.blk
    have hSS := hRd.ss
    obtain ⟨A5, c5, rfl⟩ := own_shape hSS.own
    have p0 : X.cell? ⟨pp, 0, none⟩ = some (.string ⟨b.toArray⟩) := (cell_of_row _ _ _ _ _ _ hblk).trans rfl
    have p1 : X.cell? ⟨pp, 1, none⟩ = some (.int .i64 f) := (cell_of_row _ _ _ _ _ _ hblk).trans rfl
    have p5 : X.cell? ⟨pp, 5, none⟩ = some (.slice A5 L.length c5) := (cell_of_row _ _ _ _ _ _ hblk).trans rfl
    have jp : Old pp X := ⟨(Array.getElem?_eq_some_iff.1 hblk).1⟩
    obtain ⟨c0, c1, c2, c3, c4⟩ := hRX.cells
    have j0 : Old w.heap.size X := ⟨(Array.getElem?_eq_some_iff.1 hRX.r0).1⟩
    have j1 : Old (w.heap.size + 1) X := ⟨(Array.getElem?_eq_some_iff.1 hRX.r1).1⟩
    have j2 : Old (w.heap.size + 1 + 1) X := ⟨(Array.getElem?_eq_some_iff.1 hRX.r2).1⟩
    have j3 : Old (w.heap.size + 1 + 1 + 1) X := ⟨(Array.getElem?_eq_some_iff.1 hRX.r3).1⟩
    have k0 : HasCell X w.heap.size 0 := ⟨by rw [c0]; rfl⟩
    have k1 : HasCell X w.heap.size 1 := ⟨by rw [c1]; rfl⟩
    have k2 : HasCell X (w.heap.size + 1) 0 := ⟨by rw [c2]; rfl⟩
    have k3 : HasCell X (w.heap.size + 1 + 1) 0 := ⟨by rw [c3]; rfl⟩
    have k4 : HasCell X (w.heap.size + 1 + 1 + 1) 0 := ⟨by rw [c4]; rfl⟩
    have z0 : ∀ i, X.frozen? ⟨w.heap.size, i, none⟩ = false := fun i => frozen_of_row _ _ _ _ _ hRX.r0
    have z1 : ∀ i, X.frozen? ⟨w.heap.size + 1, i, none⟩ = false := fun i => frozen_of_row _ _ _ _ _ hRX.r1
    have z2 : ∀ i, X.frozen? ⟨w.heap.size + 1 + 1, i, none⟩ = false := fun i => frozen_of_row _ _ _ _ _ hRX.r2
    have z3 : ∀ i, X.frozen? ⟨w.heap.size + 1 + 1 + 1, i, none⟩ = false := fun i => frozen_of_row _ _ _ _ _ hRX.r3
    have hnp : ¬ pp = w.heap.size ∧ ¬ pp = w.heap.size + 1 ∧ ¬ pp = w.heap.size + 1 + 1 ∧ ¬ pp = w.heap.size + 1 + 1 + 1 := by omega
    obtain ⟨n0, n1, n2, n3⟩ := hnp
    obtain ⟨S, hS⟩ := (⟨_, rfl⟩ : ∃ S, (((((X.setCell ⟨w.heap.size, 0, none⟩ (.string ⟨b.toArray⟩)).setCell ⟨w.heap.size, 1, none⟩ (.int .i64 f)).setCell ⟨w.heap.size + 1, 0, none⟩ (.slice A5 L.length c5)).setCell ⟨w.heap.size + 1 + 1, 0, none⟩ (.int .i64 0)).setCell ⟨w.heap.size + 1 + 1 + 1, 0, none⟩ (.int .i64 0)).drew = S)
    have hr := res_set hRX ⟨b.toArray⟩ f (.slice A5 L.length c5) 0 0
    have hrS : Res S w.heap.size ⟨b.toArray⟩ f (.slice A5 L.length c5) 0 0 := by rw [← hS]; exact hr.1.grow (chg_drew (Chg.refl _ _))
    have hcS : Chg (FRes w.heap.size) X S := by rw [← hS]; exact chg_drew hr.2
    have hssS : SS S w.heap.size (.slice A5 L.length c5) vs L := (hSS.chg hcS fun k hk _ hf => by have := hf.2; omega).base (by omega)
    have hcwS : Chg Noth w S := hwX.trans hcS (fun i hi e => by have := e.1; omega)
    have hszS := hcS.size
    have HS := Lib.hid (And.intro hrS (And.intro hssS hcwS))
    have hltS : w.heap.size + 1 + 1 + 1 < S.heap.size := Nat.lt_of_lt_of_le j3.lt hszS
    have HEQ := Lib.hid hS
    clear hS hrS hssS hcwS hcS hszS hr hRd hblk hSS hRX hcX hwX hY hcY hscr
    obtain ⟨LN, hLN⟩ : ∃ n, L.length = n := ⟨_, rfl⟩
    have HLN := Lib.hid hLN
    rw [hLN] at p5
    clear hLN
    go_wp2_with fail
    refine wp_normal ?_
    go_region_law (fail)
    all_goals
      dsimp only [NormP]
      go_wp2_with fail
      have hS := HEQ.out
      have hln := HLN.out
      subst hln
      rw [hS]
      refine leaves_cons (f := 9) (args := #[.pointer (some ⟨w.heap.size, 0, none⟩), .pointer (some ⟨w.heap.size + 1, 0, none⟩), .pointer (some ⟨w.heap.size + 1 + 1, 0, none⟩), .pointer (some ⟨w.heap.size + 1 + 1 + 1, 0, none⟩)]) (by simp) (by simp [go_sem]) ?_
      refine (caught_idle w.heap.size S hltS).mono ?_
      rintro e u' w'' ⟨rfl, rfl, hc2⟩
      have hr2 := HS.out.1.grow hc2
      obtain ⟨d0, d1, d2, d3, d4⟩ := hr2.cells
      have HP : ParsePost w (.ok (b, f, L)) (.returned (.tuple #[.agg #[.string ⟨b.toArray⟩, .int .i64 f], .slice A5 L.length c5, .int .i64 0, .int .i64 0])) w'' := ⟨HS.out.2.2.trans hc2 (fun _ _ e => e.elim), _, _, rfl, HS.out.2.1.grow hc2⟩
      have HP := Lib.hid HP
      clear hS
      simp [Leaves, settle, results, Tryd.results5, go_sem, d0, d1, d2, d3, d4]
      rw [hPR]
      exact HP.out
theorem scan_each {t : List UInt8} {rows : List (Nat × List Wd × Nat)} (h : scan t = .ok rows) : t.length ≤ 65536 ∧ (∀ r ∈ rows, ∀ x ∈ r.2.1, x.kind ≠ 1) ∧ ∀ r ∈ full rows, r.2 ≠ [] ∧ r.2.length ≤ 100000 ∧ ∀ y ∈ r.2, y.text.length ≤ 100000 := by
  unfold scan at h
  split at h
  · cases h
  · rename_i hl
    refine ⟨by omega, scan_kind _ 0 rows h, fun r hr => ?_⟩
    obtain ⟨h1, x, hx, e⟩ := full_each hr
    obtain ⟨l, hl2, hwd⟩ := scanF_each _ 0 rows h x hx
    have hle : l.length ≤ t.length := by have := linesF_each t [] l hl2; simpa using this
    rw [e] at hwd
    have hsz : (⟨l.toArray⟩ : ByteArray).size = l.length := by show l.toArray.size = _; simp
    refine ⟨h1, ?_, fun y hy => ?_⟩
    · have := words_len hwd
      omega
    · have := words_text hwd hy
      omega
/-- PARSE. -/
theorem parse_v (t : ByteArray) (w : World) : Calls Tryd.prog 5 #[.string t] w (ParsePost w (parse t.data.toList)) := by
  rw [parse_rows]
  cases hR : scan t.data.toList with
  | error x =>
    obtain ⟨er, ln, col⟩ := x
    exact parse_scanErr t w er ln col hR
  | ok rows =>
    have h := scan_each hR
    exact parse_ok t w rows hR h.2.1 h.2.2
end Go.Proofs.YtkamjhhaghkdmaaDoor
