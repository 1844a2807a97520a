/- The words of a line: the walk. -/
import Derived.Test.YtkamjhhaghkdmaaDoorH28
import Derived.Deep.AppendLies
import Derived.BigRegion
import Derived.Deep.RegionLaw
namespace Go.Ear
section
variable {P : Program} {a : Act} {w : World} {Q : Exit → Act → World → Prop}
theorem seq_of {C R : Code} {l : Nat} (hk : ∃ r, findLabel C l = some (.seq .skip r) ∧ r.wp P Q a w) (e : findLabel C l = some (.seq .skip R)) : R.wp P Q a w := by
  obtain ⟨r, hr, hw⟩ := hk
  have := hr.symm.trans e
  injection this with this
  injection this with _ this
  subst this
  exact hw
theorem goto_of {C : Code} {l : Nat} (hk : ∃ r, findLabel C l = some (.seq .skip r) ∧ r.wp P Q a w) : ∃ r, findLabel C l = some r ∧ r.wp P Q a w := by
  obtain ⟨r, hr, hw⟩ := hk
  exact ⟨_, hr, wp_seq (wp_skip hw)⟩
end
/-- A word's cells. -/
def tv (ln : Nat) (x : Wd) : List Value := [.int .i64 x.kind, .string ⟨x.text.toArray⟩, .int .i64 (ln : Int), .int .i64 (x.col : Int)]
def fl (ln : Nat) (out : List Wd) : List Value := out.flatMap (tv ln)
theorem fl_snoc (ln : Nat) (out : List Wd) (x : Wd) : fl ln (out ++ [x]) = fl ln out ++ tv ln x := by simp [fl]
/-- Four cells, written anew. -/
theorem put4 {Y : World} {c : Nat} {T : TypeId} {z0 z1 z2 z3 : Value} (h0 : Y.heap[c]? = some (.cells #[z0, z1, z2, z3] T (0, 0))) (v0 v1 v2 v3 : Value) :
    ((((Y.setCell ⟨c, 0, none⟩ v0).setCell ⟨c, 1, none⟩ v1).setCell ⟨c, 2, none⟩ v2).setCell ⟨c, 3, none⟩ v3).heap[c]? = some (.cells #[v0, v1, v2, v3] T (0, 0)) := by
  have h1 := heap_setCell_same _ _ 0 _ _ v0 h0
  have h2 := heap_setCell_same _ _ 1 _ _ v1 h1
  have h3 := heap_setCell_same _ _ 2 _ _ v2 h2
  exact heap_setCell_same _ _ 3 _ _ v3 h3
theorem Chg.heap_at {F : Nat → Prop} {a b : World} {k : Nat} {o : Obj} (h : Chg F a b) (hk : a.heap[k]? = some o) (hF : ¬ F k) : b.heap[k]? = some o := (h.block k (Array.getElem?_eq_some_iff.1 hk).1 hF).trans hk
end Go.Ear
namespace Go.Proofs.YtkamjhhaghkdmaaDoor
open Go.RowKit Go.Ear Go.Proofs.YtkamjhhaghkdmaaDoorW.PrintWords Go.Proofs.YtkamjhhaghkdmaaDoor.PScriptLines
set_option maxHeartbeats 4000000
set_option maxRecDepth 100000
set_option linter.unusedSimpArgs false
set_option linter.unusedVariables false
theorem infoTok : (Tryd.prog.info? 33).map (fun i => (i.zero, i.size, i.bytes)) = some (some (.agg #[.int .i64 0, .string ⟨#[]⟩, .int .i64 0, .int .i64 0]), 4, 40) := by kernel_rfl
/-- Where the walk stands: the line, its words, the kinds, the character, the word in the making. -/
structure WSt (w : World) (b : Nat) (s : ByteArray) (X : World) (p col : Nat) (v : Value) (out : List Wd) (r sz lo : Value) (k t c : Value) : Prop where
  chg : Chg (fun j => j = b) w X
  line : LineAt X b s p col v
  own : X.ownsRow (w.heap.size + 3) 33 4 v out.length (fl 0 out)
  kin : X.heap[w.heap.size]? = some (.cells #[.int .i64 0, .int .i64 0, .int .i64 0, .int .i64 3, .int .i64 2, .int .i64 5] 66 (0, 0))
  chr : X.heap[w.heap.size + 1]? = some (.cells #[r, .int .i64 0, sz, lo] 68 (0, 0))
  tok : X.heap[w.heap.size + 1 + 1]? = some (.cells #[k, t, .int .i64 0, c] 33 (0, 0))
/-- Blocks that a round writes in place. -/
abbrev WF (w : World) (b : Nat) : Nat → Prop := fun j => j = b ∨ j = w.heap.size + 1 ∨ j = w.heap.size + 1 + 1
theorem WSt.move {w : World} {b : Nat} {s : ByteArray} {X Y : World} {p col p' col' : Nat} {v r sz lo k t c r' sz' lo' k' t' c' : Value} {out : List Wd} (h : WSt w b s X p col v out r sz lo k t c) (hb : b < w.heap.size) (hc : Chg (WF w b) X Y)
    (hl : LineAt Y b s p' col' v) (hch : Y.heap[w.heap.size + 1]? = some (.cells #[r', .int .i64 0, sz', lo'] 68 (0, 0))) (htk : Y.heap[w.heap.size + 1 + 1]? = some (.cells #[k', t', .int .i64 0, c'] 33 (0, 0))) : WSt w b s Y p' col' v out r' sz' lo' k' t' c' where
  chg := h.chg.trans hc (fun i hi hF => by rcases hF with e | e | e; exact e; omega; omega)
  line := hl
  own := own_chg h.own hc (fun k hk hF => by have := (h.own.lt k hk).1; rcases hF with e | e | e <;> omega)
  kin := hc.heap_at h.kin (fun hF => by rcases hF with e | e | e <;> omega)
  chr := hch
  tok := htk
theorem WSt.grow {w : World} {b : Nat} {s : ByteArray} {X Y : World} {p col : Nat} {v r sz lo k t c : Value} {out : List Wd} (h : WSt w b s X p col v out r sz lo k t c) (hb : b < w.heap.size) (hc : Chg Noth X Y) : WSt w b s Y p col v out r sz lo k t c :=
  h.move hb (hc.mono (fun _ _ e => e.elim)) (h.line.grow hc) (hc.heap_at h.chr (fun e => e)) (hc.heap_at h.tok (fun e => e))
theorem WSt.setChr {w : World} {b : Nat} {s : ByteArray} {X : World} {p col : Nat} {v r sz lo k t c : Value} {out : List Wd} (h : WSt w b s X p col v out r sz lo k t c) (hb : b < w.heap.size) (r' sz' lo' : Value) :
    WSt w b s ((((X.setCell ⟨w.heap.size + 1, 0, none⟩ r').setCell ⟨w.heap.size + 1, 1, none⟩ (.int .i64 0)).setCell ⟨w.heap.size + 1, 2, none⟩ sz').setCell ⟨w.heap.size + 1, 3, none⟩ lo') p col v out r' sz' lo' k t c := by
  have i1 : May (w.heap.size + 1) (WF w b) X := ⟨.inl (.inr (.inl rfl))⟩
  refine h.move hb (chg_set (chg_set (chg_set (chg_set (Chg.refl _ _) _ _ _) _ _ _) _ _ _) _ _ _) ?_ (put4 h.chr _ _ _ _) ?_
  · have hne : ¬ b = w.heap.size + 1 := by omega
    show _ = _
    simp only [heap_set_far _ _ _ _ hne]
    exact h.line
  · have hne : ¬ w.heap.size + 1 + 1 = w.heap.size + 1 := by omega
    simp only [heap_set_far _ _ _ _ hne]
    exact h.tok
theorem WSt.setTok0 {w : World} {b : Nat} {s : ByteArray} {X : World} {p col : Nat} {v r sz lo k t c : Value} {out : List Wd} (h : WSt w b s X p col v out r sz lo k t c) (hb : b < w.heap.size) (x : Value) :
    WSt w b s (X.setCell ⟨w.heap.size + 1 + 1, 0, none⟩ x) p col v out r sz lo x t c := by
  have i1 : May (w.heap.size + 1 + 1) (WF w b) X := ⟨.inl (.inr (.inr rfl))⟩
  refine h.move hb (chg_set (Chg.refl _ _) _ _ _) ((heap_set_far _ _ _ _ (by omega)).trans h.line) ((heap_set_far _ _ _ _ (by omega)).trans h.chr) ?_
  exact heap_setCell_same _ _ 0 _ _ _ h.tok
theorem WSt.setTok1 {w : World} {b : Nat} {s : ByteArray} {X : World} {p col : Nat} {v r sz lo k t c : Value} {out : List Wd} (h : WSt w b s X p col v out r sz lo k t c) (hb : b < w.heap.size) (x : Value) :
    WSt w b s (X.setCell ⟨w.heap.size + 1 + 1, 1, none⟩ x) p col v out r sz lo k x c := by
  have i1 : May (w.heap.size + 1 + 1) (WF w b) X := ⟨.inl (.inr (.inr rfl))⟩
  refine h.move hb (chg_set (Chg.refl _ _) _ _ _) ((heap_set_far _ _ _ _ (by omega)).trans h.line) ((heap_set_far _ _ _ _ (by omega)).trans h.chr) ?_
  exact heap_setCell_same _ _ 1 _ _ _ h.tok
theorem WSt.setTok3 {w : World} {b : Nat} {s : ByteArray} {X : World} {p col : Nat} {v r sz lo k t c : Value} {out : List Wd} (h : WSt w b s X p col v out r sz lo k t c) (hb : b < w.heap.size) (x : Value) :
    WSt w b s (X.setCell ⟨w.heap.size + 1 + 1, 3, none⟩ x) p col v out r sz lo k t x := by
  have i1 : May (w.heap.size + 1 + 1) (WF w b) X := ⟨.inl (.inr (.inr rfl))⟩
  refine h.move hb (chg_set (Chg.refl _ _) _ _ _) ((heap_set_far _ _ _ _ (by omega)).trans h.line) ((heap_set_far _ _ _ _ (by omega)).trans h.chr) ?_
  exact heap_setCell_same _ _ 3 _ _ _ h.tok
theorem WSt.push {w : World} {b : Nat} {s : ByteArray} {X X' w1 : World} {p col g cap : Nat} {v r sz lo k t c : Value} {out : List Wd} (h : WSt w b s X p col v out r sz lo k t c) (hb : b < w.heap.size) (hc : Chg Noth X X') (hg : X'.grownBy w1 v.ownBlock) (x : Wd) (news : List Value) (hn : news = tv 0 x)
    (ho : w1.ownsRow (w.heap.size + 3) 33 4 (.slice (some ⟨g, 0, none⟩) (out.length + 1) cap) (out.length + 1) (fl 0 out ++ news)) :
    WSt w b s (w1.setCell ⟨b, 3, none⟩ (.slice (some ⟨g, 0, none⟩) (out.length + 1) cap)) p col (.slice (some ⟨g, 0, none⟩) (out.length + 1) cap) (out ++ [x]) r sz lo k t c := by
  have hlt : ∀ k, v.ownBlock = some k → w.heap.size + 3 ≤ k := fun k hk => (h.own.lt k hk).1
  have hc1 : Chg (fun k => v.ownBlock = some k) X w1 := (hc.mono (fun _ _ e => e.elim)).trans (Chg.of_grown hg) (fun i hi e => e)
  have hcw : Chg (fun j => j = b) w w1 := h.chg.trans hc1 (fun i hi e => by have := hlt i e; omega)
  have i1 : May b (fun j => j = b) w := ⟨.inl rfl⟩
  have hline : w1.heap[b]? = some (.cells #[.string s, .int .i64 p, .int .i64 col, v] 56 (0, 0)) := hc1.heap_at h.line (fun e => by have := hlt _ e; omega)
  refine ⟨chg_set hcw _ _ _, heap_setCell_same _ _ 3 _ _ _ hline, ?_, ?_, ?_, ?_⟩
  · have : (out ++ [x]).length = out.length + 1 := by simp
    rw [this, fl_snoc, ← hn]
    exact own_kept ho (fun k hk => heap_set_far _ _ _ _ (by have := (ho.lt k hk).1; omega))
  · exact (heap_set_far _ _ _ _ (by omega)).trans (hc1.heap_at h.kin (fun e => by have := hlt _ e; omega))
  · exact (heap_set_far _ _ _ _ (by omega)).trans (hc1.heap_at h.chr (fun e => by have := hlt _ e; omega))
  · exact (heap_set_far _ _ _ _ (by omega)).trans (hc1.heap_at h.tok (fun e => by have := hlt _ e; omega))
theorem WSt.start {w : World} {b : Nat} {s : ByteArray} (h : LineAt w b s 0 1 (.slice none 0 0)) : WSt w b s (((w.alloc (.cells #[.int .i64 0, .int .i64 0, .int .i64 0, .int .i64 3, .int .i64 2, .int .i64 5] 66)).alloc (.cells #[.int .i32 0, .int .i64 0, .int .i64 0, .bool false] 68)).alloc (.cells #[.int .i64 0, .string ⟨#[]⟩, .int .i64 0, .int .i64 0] 33))
    0 1 (.slice none 0 0) [] (.int .i32 0) (.int .i64 0) (.bool false) (.int .i64 0) (.string ⟨#[]⟩) (.int .i64 0) where
  chg := chg_alloc (chg_alloc (chg_alloc (Chg.refl _ _) _) _) _
  line := h.grow (chg_alloc (chg_alloc (chg_alloc (Chg.refl _ _) _) _) _)
  own := ⟨rfl, .inl ⟨rfl, rfl⟩⟩
  kin := (Below.heap_alloc _ _ _ (by simp; omega)).trans ((Below.heap_alloc _ _ _ (by simp)).trans (heap_alloc_new _ _))
  chr := (Below.heap_alloc _ _ _ (by simp)).trans (by have := heap_alloc_new (w.alloc (.cells #[.int .i64 0, .int .i64 0, .int .i64 0, .int .i64 3, .int .i64 2, .int .i64 5] 66)) (.cells #[.int .i32 0, .int .i64 0, .int .i64 0, .bool false] 68); simpa using this)
  tok := by
    have := heap_alloc_new ((w.alloc (.cells #[.int .i64 0, .int .i64 0, .int .i64 0, .int .i64 3, .int .i64 2, .int .i64 5] 66)).alloc (.cells #[.int .i32 0, .int .i64 0, .int .i64 0, .bool false] 68)) (.cells #[.int .i64 0, .string ⟨#[]⟩, .int .i64 0, .int .i64 0] 33)
    rw [show ((w.alloc (.cells #[.int .i64 0, .int .i64 0, .int .i64 0, .int .i64 3, .int .i64 2, .int .i64 5] 66)).alloc (.cells #[.int .i32 0, .int .i64 0, .int .i64 0, .bool false] 68)).heap.size = w.heap.size + 1 + 1 by simp] at this
    exact this
/-- What is known behind the walk over a line's words. -/
def WordsPost (s : ByteArray) (b : Nat) (w : World) (R : Except (Int × Nat) (List Wd)) : Ending → World → Prop := fun e w' => match R with
  | .error (er, c) => e = .returned (.int .i64 er) ∧ Chg (fun j => j = b) w w' ∧ ∃ p v, LineAt w' b s p c v
  | .ok out => e = .returned (.int .i64 0) ∧ Chg (fun j => j = b) w w' ∧ ∃ p c v, LineAt w' b s p c v ∧ w'.ownsRow w.heap.size 33 4 v out.length (fl 0 out)
theorem words_any (b : Nat) (s : ByteArray) (w : World) (h : LineAt w b s 0 1 (.slice none 0 0)) (hs : s.size ≤ 1000000) :
    Calls Tryd.prog 12 #[.pointer (some ⟨b, 0, none⟩)] w (WordsPost s b w (words s)) := by
  have hb : b < w.heap.size := (Array.getElem?_eq_some_iff.1 h).1
  have jb0 : Old b w := ⟨hb⟩
  obtain ⟨R, hR⟩ : ∃ R, words s = R := ⟨_, rfl⟩
  rw [hR]
  rw [words_ws] at hR
  have HH := Lib.hid (And.intro h (And.intro hs (And.intro hb hR)))
  clear h hs hb hR
  have hcl := class_any
  go_enter Tryd.func12, Tryd.ntmps12
  go_wp2_with fail
  refine wp_scope_chain (2 * s.size + 2) fun C hC => ?_
  have HC := Lib.hid hC
  clear hC
  have key : ∀ (m p col n : Nat) (out : List Wd) (X : World) (v r sz lo' tk tt tc : Value) (u1 u2 u5 u6 u7 u9 u10 u11 u12 u13 u14 u15 u16 u17 u18 u19 u20 u21 u22 u23 u24 u25 u26 u27 u28 u29 u30 u31 u32 u33 u34 u35 u36 u37 u38 u39 u40 u41 u42 u43 u44 u45 u46 u47 u48 u49 u50 u51 u52 u53 u54 u55 u56 u57 u58 u59 u60 u61 u62 u63 u64 u65 u66 u67 u68 u69 u70 u71 u72 u73 u74 u75 u76 u77 u78 u79 u80 u81 u82 u83 u84 u85 u86 u87 u88 u89 u90 u91 u92 u93 u94 u95 u96 u97 u98 u99 u100 u101 u102 u103 u104 u105 u106 u107 u108 u109 u110 u111 u112 u113 u114 u115 u116 u117 u118 u119 u120 u121 u122 u123 u124 u125 u126 u127 u128 u129 u130 u131 u132 u133 u134 u135 u136 u137 u138 u139 u140 u141 u142 u143 u144 : Value), s.size - p = m → 2 * m + 2 ≤ n → p ≤ s.size → col ≤ p + 1 → out.length ≤ p → wsF s p col out = R → WSt w b s X p col v out r sz lo' tk tt tc →
      ∃ rest, findLabel C 0 = some (.seq .skip rest) ∧ rest.wp Tryd.prog (Exit.chain Tryd.prog C (bodyPost Tryd.prog Tryd.f12 (WordsPost s b w R)) n) (⟨#[.pointer (some ⟨b, 0, none⟩), u1, u2, .pointer (some ⟨w.heap.size, 0, none⟩), .pointer (some ⟨w.heap.size + 1, 0, none⟩), u5, u6, u7, .pointer (some ⟨w.heap.size + 1 + 1, 0, none⟩), u9, u10, u11, u12, u13, u14, u15, u16, u17, u18, u19, u20, u21, u22, u23, u24, u25, u26, u27, u28, u29, u30, u31, u32, u33, u34, u35, u36, u37, u38, u39, u40, u41, u42, u43, u44, u45, u46, u47, u48, u49, u50, u51, u52, u53, u54, u55, u56, u57, u58, u59, u60, u61, u62, u63, u64, u65, u66, u67, u68, u69, u70, u71, u72, u73, u74, u75, u76, u77, u78, u79, u80, u81, u82, u83, u84, u85, u86, u87, u88, u89, u90, u91, u92, u93, u94, u95, u96, u97, u98, u99, u100, u101, u102, u103, u104, u105, u106, u107, u108, u109, u110, u111, u112, u113, u114, u115, u116, u117, u118, u119, u120, u121, u122, u123, u124, u125, u126, u127, u128, u129, u130, u131, u132, u133, u134, u135, u136, u137, u138, u139, u140, u141, u142, u143, u144], []⟩ : Act) X := by
    intro m
    induction m using Nat.strongRecOn with
    | ind m ih =>
      intro p col n out X v r sz lo' tk tt tc u1 u2 u5 u6 u7 u9 u10 u11 u12 u13 u14 u15 u16 u17 u18 u19 u20 u21 u22 u23 u24 u25 u26 u27 u28 u29 u30 u31 u32 u33 u34 u35 u36 u37 u38 u39 u40 u41 u42 u43 u44 u45 u46 u47 u48 u49 u50 u51 u52 u53 u54 u55 u56 u57 u58 u59 u60 u61 u62 u63 u64 u65 u66 u67 u68 u69 u70 u71 u72 u73 u74 u75 u76 u77 u78 u79 u80 u81 u82 u83 u84 u85 u86 u87 u88 u89 u90 u91 u92 u93 u94 u95 u96 u97 u98 u99 u100 u101 u102 u103 u104 u105 u106 u107 u108 u109 u110 u111 u112 u113 u114 u115 u116 u117 u118 u119 u120 u121 u122 u123 u124 u125 u126 u127 u128 u129 u130 u131 u132 u133 u134 u135 u136 u137 u138 u139 u140 u141 u142 u143 u144 hm hn hp hcol hlen hR S
      refine ⟨_, (congrArg (findLabel · 0) HC.out).trans rfl, ?_⟩
      obtain ⟨jb, c0, c1, c2, c3⟩ := S.line.cells
      have jk : Old w.heap.size X := ⟨(Array.getElem?_eq_some_iff.1 S.kin).1⟩
      have jc : Old (w.heap.size + 1) X := ⟨(Array.getElem?_eq_some_iff.1 S.chr).1⟩
      have jt : Old (w.heap.size + 1 + 1) X := ⟨(Array.getElem?_eq_some_iff.1 S.tok).1⟩
      have z0 : X.cell? ⟨w.heap.size + 1, 0, none⟩ = some r := by rw [cell_of_row _ _ _ _ _ _ S.chr]; rfl
      have z1 : X.cell? ⟨w.heap.size + 1, 1, none⟩ = some (.int .i64 0) := by rw [cell_of_row _ _ _ _ _ _ S.chr]; rfl
      have z2 : X.cell? ⟨w.heap.size + 1, 2, none⟩ = some sz := by rw [cell_of_row _ _ _ _ _ _ S.chr]; rfl
      have z3 : X.cell? ⟨w.heap.size + 1, 3, none⟩ = some lo' := by rw [cell_of_row _ _ _ _ _ _ S.chr]; rfl
      have t0 : X.cell? ⟨w.heap.size + 1 + 1, 0, none⟩ = some tk := by rw [cell_of_row _ _ _ _ _ _ S.tok]; rfl
      have t1 : X.cell? ⟨w.heap.size + 1 + 1, 1, none⟩ = some tt := by rw [cell_of_row _ _ _ _ _ _ S.tok]; rfl
      have t2 : X.cell? ⟨w.heap.size + 1 + 1, 2, none⟩ = some (.int .i64 0) := by rw [cell_of_row _ _ _ _ _ _ S.tok]; rfl
      have t3 : X.cell? ⟨w.heap.size + 1 + 1, 3, none⟩ = some tc := by rw [cell_of_row _ _ _ _ _ _ S.tok]; rfl
      have fz1 : ∀ i, X.frozen? ⟨w.heap.size + 1, i, none⟩ = false := fun i => frozen_of_row _ _ _ _ _ S.chr
      have fz2 : ∀ i, X.frozen? ⟨w.heap.size + 1 + 1, i, none⟩ = false := fun i => frozen_of_row _ _ _ _ _ S.tok
      have kz0 : HasCell X (w.heap.size + 1) 0 := ⟨by rw [z0]; rfl⟩
      have kt0 : HasCell X (w.heap.size + 1 + 1) 0 := ⟨by rw [t0]; rfl⟩
      have kz1 : HasCell X (w.heap.size + 1) 1 := ⟨by rw [z1]; rfl⟩
      have kt1 : HasCell X (w.heap.size + 1 + 1) 1 := ⟨by rw [t1]; rfl⟩
      have kz2 : HasCell X (w.heap.size + 1) 2 := ⟨by rw [z2]; rfl⟩
      have kt2 : HasCell X (w.heap.size + 1 + 1) 2 := ⟨by rw [t2]; rfl⟩
      have kz3 : HasCell X (w.heap.size + 1) 3 := ⟨by rw [z3]; rfl⟩
      have kt3 : HasCell X (w.heap.size + 1 + 1) 3 := ⟨by rw [t3]; rfl⟩

      by_cases hlt : p < s.size
      · have g2 : (p : Int) ≤ (s.size : Int) := by omega
        have g3 : (0 : Int) ≤ (p : Int) := by omega
        have x0 : (p == s.size) = false := beq_eq_false_iff_ne.2 (by omega)
        obtain ⟨t, hxt⟩ : ∃ t, s.extract p s.size = t := ⟨_, rfl⟩
        have hF := fun W => first_any t W (by rw [← hxt, size_ext]; omega)
        have e1 : rn t 0 = rn s p := by rw [← hxt, rn_ext, Nat.add_zero]
        have e2 : wd t 0 = wd s p := by rw [← hxt, wd_ext, Nat.add_zero]
        have e3 : lo t 0 = lo s p := by rw [← hxt, lo_ext, Nat.add_zero]
        rw [e1, e2, e3] at hF
        have HT := Lib.hid hxt
        rw [ws_step _ _ hlt] at hR
        obtain ⟨n, rfl⟩ : ∃ n', n = n' + 2 := ⟨n - 2, by omega⟩
        have hmn : 2 * m ≤ n := by omega
        have IH := Lib.hid ih
        have HR := Lib.hid (And.intro hR (And.intro hm (And.intro hmn (And.intro hlt (And.intro hp (And.intro hcol (And.intro hlen S)))))))
        clear e1 e2 e3 hR hlt hp hcol hlen S ih hm hn hmn
        go_wp2_with fail
        refine wp_region_grows (by kernel_rfl) (by kernel_rfl) ?_
        repeat (go_big_quiet_step ((fail)))
        refine wpQuiet_nil ?_
        rintro _ ⟨g1, rfl⟩
        go_wp2_with fail
        refine wp_region_head_call 10 (by kernel_rfl) (by kernel_rfl) ?_
        simp only [List.take_succ_cons, List.take_zero]
        repeat (go_big_quiet_step ((go_at_call 21; exact grows_of (hF _))))
        refine wpQuiet_nil ?_
        intro g4 o ho
        simp only [List.getElem?_cons_succ, List.getElem?_cons_zero, Option.some.injEq] at ho
        subst ho
        simp only [List.drop_succ_cons, List.drop_zero]
        go_simp
        unfold RestQ
        refine wpQuiet_nil ?_
        intro g5
        obtain ⟨Y, hY⟩ : ∃ Y, g5.w = Y := ⟨_, rfl⟩
        have S3 : WSt w b s Y p col v out (.int .i32 (rn s p)) (.int .i64 (wd s p)) (.bool (lo s p)) tk tt tc := by
          rw [← hY]
          exact ((((HR.out.2.2.2.2.2.2.2.grow HH.out.2.2.1 g1.h).grow HH.out.2.2.1 g4.h).setChr HH.out.2.2.1 _ _ _).grow HH.out.2.2.1 g5.h)
        rw [hY]
        clear jb c0 c1 c2 c3 jk jc jt z0 z1 z2 z3 t0 t1 t2 t3 fz1 fz2 kz0 kz1 kz2 kz3 kt0 kt1 kt2 kt3
        obtain ⟨jb, c0, c1, c2, c3⟩ := S3.line.cells
        have jk : Old w.heap.size Y := ⟨(Array.getElem?_eq_some_iff.1 S3.kin).1⟩
        have jc : Old (w.heap.size + 1) Y := ⟨(Array.getElem?_eq_some_iff.1 S3.chr).1⟩
        have jt : Old (w.heap.size + 1 + 1) Y := ⟨(Array.getElem?_eq_some_iff.1 S3.tok).1⟩
        have z0 : Y.cell? ⟨w.heap.size + 1, 0, none⟩ = some (.int .i32 (rn s p)) := by rw [cell_of_row _ _ _ _ _ _ S3.chr]; rfl
        have z1 : Y.cell? ⟨w.heap.size + 1, 1, none⟩ = some (.int .i64 0) := by rw [cell_of_row _ _ _ _ _ _ S3.chr]; rfl
        have z2 : Y.cell? ⟨w.heap.size + 1, 2, none⟩ = some (.int .i64 (wd s p)) := by rw [cell_of_row _ _ _ _ _ _ S3.chr]; rfl
        have z3 : Y.cell? ⟨w.heap.size + 1, 3, none⟩ = some (.bool (lo s p)) := by rw [cell_of_row _ _ _ _ _ _ S3.chr]; rfl
        have t0 : Y.cell? ⟨w.heap.size + 1 + 1, 0, none⟩ = some tk := by rw [cell_of_row _ _ _ _ _ _ S3.tok]; rfl
        have t1 : Y.cell? ⟨w.heap.size + 1 + 1, 1, none⟩ = some tt := by rw [cell_of_row _ _ _ _ _ _ S3.tok]; rfl
        have t2 : Y.cell? ⟨w.heap.size + 1 + 1, 2, none⟩ = some (.int .i64 0) := by rw [cell_of_row _ _ _ _ _ _ S3.tok]; rfl
        have t3 : Y.cell? ⟨w.heap.size + 1 + 1, 3, none⟩ = some tc := by rw [cell_of_row _ _ _ _ _ _ S3.tok]; rfl
        have fz1 : ∀ i, Y.frozen? ⟨w.heap.size + 1, i, none⟩ = false := fun i => frozen_of_row _ _ _ _ _ S3.chr
        have fz2 : ∀ i, Y.frozen? ⟨w.heap.size + 1 + 1, i, none⟩ = false := fun i => frozen_of_row _ _ _ _ _ S3.tok
        have kz0 : HasCell Y (w.heap.size + 1) 0 := ⟨by rw [z0]; rfl⟩
        have kt0 : HasCell Y (w.heap.size + 1 + 1) 0 := ⟨by rw [t0]; rfl⟩
        have kz1 : HasCell Y (w.heap.size + 1) 1 := ⟨by rw [z1]; rfl⟩
        have kt1 : HasCell Y (w.heap.size + 1 + 1) 1 := ⟨by rw [t1]; rfl⟩
        have kz2 : HasCell Y (w.heap.size + 1) 2 := ⟨by rw [z2]; rfl⟩
        have kt2 : HasCell Y (w.heap.size + 1 + 1) 2 := ⟨by rw [t2]; rfl⟩
        have kz3 : HasCell Y (w.heap.size + 1) 3 := ⟨by rw [z3]; rfl⟩
        have kt3 : HasCell Y (w.heap.size + 1 + 1) 3 := ⟨by rw [t3]; rfl⟩
        have HS3 := Lib.hid S3
        clear S3 hY
        go_wp2_with fail
        go_at_call 22
        refine (hcl _ _).mono ?_
        rintro e Z ⟨rfl, g6, hZ⟩
        have S4 := (HS3.out.setTok3 HH.out.2.2.1 (.int .i64 (col : Int))).grow HH.out.2.2.1 g6.h
        rw [← hZ] at S4
        clear hZ g6
        clear jb c0 c1 c2 c3 jk jc jt z0 z1 z2 z3 t0 t1 t2 t3 fz1 fz2 kz0 kz1 kz2 kz3 kt0 kt1 kt2 kt3
        obtain ⟨jb, c0, c1, c2, c3⟩ := S4.line.cells
        have jk : Old w.heap.size Z := ⟨(Array.getElem?_eq_some_iff.1 S4.kin).1⟩
        have jc : Old (w.heap.size + 1) Z := ⟨(Array.getElem?_eq_some_iff.1 S4.chr).1⟩
        have jt : Old (w.heap.size + 1 + 1) Z := ⟨(Array.getElem?_eq_some_iff.1 S4.tok).1⟩
        have z0 : Z.cell? ⟨w.heap.size + 1, 0, none⟩ = some (.int .i32 (rn s p)) := by rw [cell_of_row _ _ _ _ _ _ S4.chr]; rfl
        have z1 : Z.cell? ⟨w.heap.size + 1, 1, none⟩ = some (.int .i64 0) := by rw [cell_of_row _ _ _ _ _ _ S4.chr]; rfl
        have z2 : Z.cell? ⟨w.heap.size + 1, 2, none⟩ = some (.int .i64 (wd s p)) := by rw [cell_of_row _ _ _ _ _ _ S4.chr]; rfl
        have z3 : Z.cell? ⟨w.heap.size + 1, 3, none⟩ = some (.bool (lo s p)) := by rw [cell_of_row _ _ _ _ _ _ S4.chr]; rfl
        have t0 : Z.cell? ⟨w.heap.size + 1 + 1, 0, none⟩ = some tk := by rw [cell_of_row _ _ _ _ _ _ S4.tok]; rfl
        have t1 : Z.cell? ⟨w.heap.size + 1 + 1, 1, none⟩ = some tt := by rw [cell_of_row _ _ _ _ _ _ S4.tok]; rfl
        have t2 : Z.cell? ⟨w.heap.size + 1 + 1, 2, none⟩ = some (.int .i64 0) := by rw [cell_of_row _ _ _ _ _ _ S4.tok]; rfl
        have t3 : Z.cell? ⟨w.heap.size + 1 + 1, 3, none⟩ = some (.int .i64 (col : Int)) := by rw [cell_of_row _ _ _ _ _ _ S4.tok]; rfl
        have fz1 : ∀ i, Z.frozen? ⟨w.heap.size + 1, i, none⟩ = false := fun i => frozen_of_row _ _ _ _ _ S4.chr
        have fz2 : ∀ i, Z.frozen? ⟨w.heap.size + 1 + 1, i, none⟩ = false := fun i => frozen_of_row _ _ _ _ _ S4.tok
        have kz0 : HasCell Z (w.heap.size + 1) 0 := ⟨by rw [z0]; rfl⟩
        have kt0 : HasCell Z (w.heap.size + 1 + 1) 0 := ⟨by rw [t0]; rfl⟩
        have kz1 : HasCell Z (w.heap.size + 1) 1 := ⟨by rw [z1]; rfl⟩
        have kt1 : HasCell Z (w.heap.size + 1 + 1) 1 := ⟨by rw [t1]; rfl⟩
        have kz2 : HasCell Z (w.heap.size + 1) 2 := ⟨by rw [z2]; rfl⟩
        have kt2 : HasCell Z (w.heap.size + 1 + 1) 2 := ⟨by rw [t2]; rfl⟩
        have kz3 : HasCell Z (w.heap.size + 1) 3 := ⟨by rw [z3]; rfl⟩
        have kt3 : HasCell Z (w.heap.size + 1 + 1) 3 := ⟨by rw [t3]; rfl⟩
        have HS4 := Lib.hid S4
        clear S4 HS3
        clear g5 g4 g1
        have hR := HR.out.1
        have hne : cls (rn s p) = 1 ∨ (cls (rn s p) ≠ 1 ∧ rn s p = 35) ∨ (cls (rn s p) ≠ 1 ∧ rn s p ≠ 35 ∧ rn s p = 34) ∨ (cls (rn s p) = 5 ∧ rn s p ≠ 35 ∧ rn s p ≠ 34) ∨ (cls (rn s p) = 4 ∧ rn s p ≠ 35 ∧ rn s p ≠ 34) ∨ (cls (rn s p) = 3 ∧ rn s p ≠ 35 ∧ rn s p ≠ 34) ∨ (cls (rn s p) ≠ 1 ∧ rn s p ≠ 35 ∧ rn s p ≠ 34 ∧ cls (rn s p) ≠ 5 ∧ cls (rn s p) ≠ 4 ∧ cls (rn s p) ≠ 3) := by omega
        clear hcl hF
        rcases hne with h1 | ⟨h1, h35⟩ | ⟨h1, h35, h34⟩ | ⟨h5, h35, h34⟩ | ⟨h5, h35, h34⟩ | ⟨h5, h35, h34⟩ | ⟨h1, h35, h34, h5, h4, h3⟩
        · have hRR := hR
          rw [if_pos h1] at hRR
          rw [h1]
          have hwl := wd_le s p HR.out.2.2.2.1
          have hwp := wd_pos s p
          have S := HS4.out
          have ht := take_any b s p col (wd s p) 1 v Z S.line hwl (by have := HH.out.2.1; omega) (by have := HR.out.2.2.2.2.2.1; have := HH.out.2.1; omega)
          rw [show ((1 : Nat) : Int) = 1 from rfl] at ht
          have HW := Lib.hid (And.intro hRR (And.intro hwl hwp))
          clear hR hRR hwl hwp S h1
          go_wp2_with fail
          go_at_call 23
          refine ht.mono ?_
          rintro e V ⟨rfl, c4, hL4⟩
          have S5 := HS4.out.move HH.out.2.2.1 (c4.mono (fun _ _ e => .inl e)) hL4 (c4.heap_at HS4.out.chr (by have := HH.out.2.2.1; omega)) (c4.heap_at HS4.out.tok (by have := HH.out.2.2.1; omega))
          clear c4 hL4 ht
          go_wp2_with fail
          refine wp_goto ?_
          show Exit.chain _ _ _ (n + 1 + 1) (.goto 0) _ _
          simp only [Exit.chain]
          have hm2 := HR.out.2
          refine goto_of (IH.out (s.size - (p + wd s p)) (by have := HW.out.2; omega) (p + wd s p) (col + 1) (n + 1) _ _ _ _ _ _ _ _ _ _ _ _ _ _ _ _ _ _ _ _ _ _ _ _ _ _ _ _ _ _ _ _ _ _ _ _ _ _ _ _ _ _ _ _ _ _ _ _ _ _ _ _ _ _ _ _ _ _ _ _ _ _ _ _ _ _ _ _ _ _ _ _ _ _ _ _ _ _ _ _ _ _ _ _ _ _ _ _ _ _ _ _ _ _ _ _ _ _ _ _ _ _ _ _ _ _ _ _ _ _ _ _ _ _ _ _ _ _ _ _ _ _ _ _ _ _ _ _ _ _ _ _ _ _ _ _ _ _ _ _ _ _ _ _ _ _ _ _ _ _ rfl (by have := HW.out.2; omega) (by have := HW.out.2; omega) (by have := HW.out.2; omega) (by have := HW.out.2; simp; omega) HW.out.1 S5)
        · rw [if_neg h1, if_pos h35] at hR
          have z0' := z0
          rw [h35] at z0
          have y1 : (cls (rn s p) == 1) = false := beq_eq_false_iff_ne.2 h1
          have HW := Lib.hid hR
          clear hR h1 z0'
          go_wp2_with fail
          rw [chain_ret]
          refine bodyPost_ret (v := .int .i64 0) (by simp [results, Tryd.results12, go_sem]) rfl ?_
          unfold WordsPost
          rw [← HW.out]
          exact ⟨rfl, HS4.out.chg, p, col, v, HS4.out.line, own_base HS4.out.own (by omega)⟩
        · rw [if_neg h1, if_neg h35, if_pos h34] at hR
          rw [h34] at z0
          have y1 : (cls (rn s p) == 1) = false := beq_eq_false_iff_ne.2 h1
          have hQ := quoted_any b s p col v Z HS4.out.line HR.out.2.2.2.1 HH.out.2.1 HR.out.2.2.2.2.2.1
          have hle := quo_le s _ (p + 1) (col + 1) rfl (by have := HR.out.2.2.2.1; omega)
          clear h1 h35 h34
          cases hq : quo s (p + 1) (col + 1) with
          | error e =>
            obtain ⟨er, ec⟩ := e
            rw [hq] at hR hQ
            simp only at hR
            have her := (hle.2 er ec hq)
            have yer : (er != 0) = true := bne_iff_ne.2 (by omega)
            have HW := Lib.hid hR
            clear hR hle her hq
            go_wp2_with fail
            refine wp_goto ?_
            show Exit.chain _ _ _ (n + 1 + 1) (.goto 1) _ _
            simp only [Exit.chain]
            refine ⟨_, (congrArg (findLabel · 1) HC.out).trans rfl, ?_⟩
            go_wp2_with fail
            go_at_call 26
            refine hQ.mono ?_
            rintro e V ⟨rfl, c4, pp, hL4⟩
            have H5 := Lib.hid (And.intro c4 hL4)
            clear c4 hL4
            go_wp2_with fail
            rw [chain_ret]
            refine bodyPost_ret (v := .int .i64 er) (by simp [results, Tryd.results12, go_sem]) rfl ?_
            unfold WordsPost
            rw [← HW.out]
            exact ⟨rfl, HS4.out.chg.trans H5.out.1 (fun _ _ e => e), pp, v, H5.out.2⟩
          | ok x =>
            obtain ⟨q, qc⟩ := x
            rw [hq] at hR hQ
            simp only at hR
            have hqq := hle.1 q qc hq
            have hx : s.extract p q = ⟨(sub s p (q - p)).toArray⟩ := by
              have := ext_sub s p (q - p)
              rwa [Nat.add_sub_cancel' (by omega)] at this
            have HX := Lib.hid hx
            have HW := Lib.hid (And.intro hR hqq)
            clear hR hle hqq hq hx
            go_wp2_with fail
            refine wp_goto ?_
            show Exit.chain _ _ _ (n + 1 + 1) (.goto 1) _ _
            simp only [Exit.chain]
            refine ⟨_, (congrArg (findLabel · 1) HC.out).trans rfl, ?_⟩
            go_wp2_with fail
            go_at_call 26
            refine hQ.mono ?_
            rintro e V ⟨rfl, c4, hL4⟩
            have S5 := HS4.out.move HH.out.2.2.1 (c4.mono (fun _ _ e => .inl e)) hL4 (c4.heap_at HS4.out.chr (by have := HH.out.2.2.1; omega)) (c4.heap_at HS4.out.tok (by have := HH.out.2.2.1; omega))
            clear c4 hL4 hQ
            clear jb c0 c1 c2 c3 jk jc jt z0 z1 z2 z3 t0 t1 t2 t3 fz1 fz2 kz0 kz1 kz2 kz3 kt0 kt1 kt2 kt3
            obtain ⟨jb, c0, c1, c2, c3⟩ := S5.line.cells
            have jk : Old w.heap.size V := ⟨(Array.getElem?_eq_some_iff.1 S5.kin).1⟩
            have jc : Old (w.heap.size + 1) V := ⟨(Array.getElem?_eq_some_iff.1 S5.chr).1⟩
            have jt : Old (w.heap.size + 1 + 1) V := ⟨(Array.getElem?_eq_some_iff.1 S5.tok).1⟩
            have z0 : V.cell? ⟨w.heap.size + 1, 0, none⟩ = some (.int .i32 (rn s p)) := by rw [cell_of_row _ _ _ _ _ _ S5.chr]; rfl
            have z1 : V.cell? ⟨w.heap.size + 1, 1, none⟩ = some (.int .i64 0) := by rw [cell_of_row _ _ _ _ _ _ S5.chr]; rfl
            have z2 : V.cell? ⟨w.heap.size + 1, 2, none⟩ = some (.int .i64 (wd s p)) := by rw [cell_of_row _ _ _ _ _ _ S5.chr]; rfl
            have z3 : V.cell? ⟨w.heap.size + 1, 3, none⟩ = some (.bool (lo s p)) := by rw [cell_of_row _ _ _ _ _ _ S5.chr]; rfl
            have t0 : V.cell? ⟨w.heap.size + 1 + 1, 0, none⟩ = some tk := by rw [cell_of_row _ _ _ _ _ _ S5.tok]; rfl
            have t1 : V.cell? ⟨w.heap.size + 1 + 1, 1, none⟩ = some tt := by rw [cell_of_row _ _ _ _ _ _ S5.tok]; rfl
            have t2 : V.cell? ⟨w.heap.size + 1 + 1, 2, none⟩ = some (.int .i64 0) := by rw [cell_of_row _ _ _ _ _ _ S5.tok]; rfl
            have t3 : V.cell? ⟨w.heap.size + 1 + 1, 3, none⟩ = some (.int .i64 (col : Int)) := by rw [cell_of_row _ _ _ _ _ _ S5.tok]; rfl
            have fz1 : ∀ i, V.frozen? ⟨w.heap.size + 1, i, none⟩ = false := fun i => frozen_of_row _ _ _ _ _ S5.chr
            have fz2 : ∀ i, V.frozen? ⟨w.heap.size + 1 + 1, i, none⟩ = false := fun i => frozen_of_row _ _ _ _ _ S5.tok
            have fz3 : ∀ i, V.frozen? ⟨b, i, none⟩ = false := fun i => frozen_of_row _ _ _ _ _ S5.line
            have kz0 : HasCell V (w.heap.size + 1) 0 := ⟨by rw [z0]; rfl⟩
            have kt0 : HasCell V (w.heap.size + 1 + 1) 0 := ⟨by rw [t0]; rfl⟩
            have kz1 : HasCell V (w.heap.size + 1) 1 := ⟨by rw [z1]; rfl⟩
            have kt1 : HasCell V (w.heap.size + 1 + 1) 1 := ⟨by rw [t1]; rfl⟩
            have kz2 : HasCell V (w.heap.size + 1) 2 := ⟨by rw [z2]; rfl⟩
            have kt2 : HasCell V (w.heap.size + 1 + 1) 2 := ⟨by rw [t2]; rfl⟩
            have kz3 : HasCell V (w.heap.size + 1) 3 := ⟨by rw [z3]; rfl⟩
            have kt3 : HasCell V (w.heap.size + 1 + 1) 3 := ⟨by rw [t3]; rfl⟩
            have n3 : V.cell? ⟨w.heap.size, 3, none⟩ = some (.int .i64 3) := by rw [cell_of_row _ _ _ _ _ _ S5.kin]; rfl
            have n4 : V.cell? ⟨w.heap.size, 4, none⟩ = some (.int .i64 2) := by rw [cell_of_row _ _ _ _ _ _ S5.kin]; rfl
            have n5 : V.cell? ⟨w.heap.size, 5, none⟩ = some (.int .i64 5) := by rw [cell_of_row _ _ _ _ _ _ S5.kin]; rfl
            have HS5 := Lib.hid S5
            clear S5
            go_wp2_with fail
            obtain ⟨i0, hi, hz0, hz1, hz2⟩ := info_parts infoTok
            have hown := HS5.out.own
            have hlen := HR.out.2.2.2.2.2.2.1
            have hsz := HH.out.2.1
            have hll := HR.out.2.2.2.1
            have hnp := Ear.own_ne HS5.out.own HS5.out.line (by decide)
            have hub := Nat.le_of_lt (Array.getElem?_eq_some_iff.1 HS5.out.tok).1
            go_region_law (refine step_append_lies _ rfl (.tmp 136) (.tmp 141) 29 rfl (w.heap.size + 3) 33 i0 _ 4 40 Tryd.underlying29 hi hz0 hz1 hz2 rfl (by decide) v out.length (fl 0 out) rfl (World.ownsRow.alloc (World.ownsRow.drew hown) _) ⟨_, 0, none⟩ 1 1 [.int .i64 4, .string (s.extract p q), .int .i64 0, .int .i64 (col : Int)] rfl rfl (World.news_of_block (cs := #[.int .i64 4, .string (s.extract p q), .int .i64 0, .int .i64 (col : Int)]) (heap_alloc_new _ _)) (by intro u hu; simp at hu; rcases hu with rfl | rfl | rfl | rfl <;> rfl) (by omega) (by simp only [maxLen]; omega) (by omega) (by have := (Array.getElem?_eq_some_iff.1 HS5.out.tok).1; simp; omega) _ rfl ?_; intro g cap w1 hown1 hgrow hat hlt; have y1 : w1.cell? ⟨b, 3, none⟩ = some v := (hgrow.cell_far ⟨b, 3, none⟩ (Old.lt (b := b)) (fun e => hnp b e.symm rfl)).trans (by simp [go_sem, c3]); have y2 : w1.frozen? ⟨b, 3, none⟩ = false := (hgrow.frozen_far ⟨b, 3, none⟩ (Old.lt (b := b)) (fun e => hnp b e.symm rfl)).trans (by simp [go_sem, fz3]))
            all_goals
              have S9 := HS5.out.push HH.out.2.2.1 (by repeat (with_reducible first | exact Chg.refl _ _ | assumption | refine chg_m ?_ _ | refine chg_g ?_ _ | refine chg_alloc ?_ _ | refine chg_drew ?_ | refine chg_drewN ?_ _ | refine chg_set ?_ _ _ _)) hgrow (⟨4, sub s p (q - p), col⟩ : Wd) _ (by simp only [tv]; rw [HX.out]; rfl) hown1
              clear hgrow hown1 hat hlt y1 y2
              go_wp2_with fail
              refine wp_goto ?_
              show Exit.chain _ _ _ (n + 1) (.goto 0) _ _
              simp only [Exit.chain]
              have hm2 := HR.out.2
              refine goto_of (IH.out (s.size - (q)) (by have := HW.out.2; omega) (q) (qc) (n) _ _ _ _ _ _ _ _ _ _ _ _ _ _ _ _ _ _ _ _ _ _ _ _ _ _ _ _ _ _ _ _ _ _ _ _ _ _ _ _ _ _ _ _ _ _ _ _ _ _ _ _ _ _ _ _ _ _ _ _ _ _ _ _ _ _ _ _ _ _ _ _ _ _ _ _ _ _ _ _ _ _ _ _ _ _ _ _ _ _ _ _ _ _ _ _ _ _ _ _ _ _ _ _ _ _ _ _ _ _ _ _ _ _ _ _ _ _ _ _ _ _ _ _ _ _ _ _ _ _ _ _ _ _ _ _ _ _ _ _ _ _ _ _ _ _ _ _ _ _ rfl (by have := HW.out.2; omega) (by have := HW.out.2; omega) (by have := HW.out.2; omega) (by have := HW.out.2; simp; omega) HW.out.1 S9)
        · rw [if_neg (by omega), if_neg h35, if_neg h34, if_pos h5] at hR
          rw [h5]
          have hwd := mark_wd s p h5
          have hwl := wd_le s p HR.out.2.2.2.1
          rw [hwd] at hwl
          have y35 : (rn s p == 35) = false := beq_eq_false_iff_ne.2 h35
          have y34 : (rn s p == 34) = false := beq_eq_false_iff_ne.2 h34
          have ht := take_any b s p col 1 1 v Z HS4.out.line hwl (by have := HH.out.2.1; omega) (by have := HR.out.2.2.2.2.2.1; have := HH.out.2.1; omega)
          rw [show ((1 : Nat) : Int) = 1 from rfl] at ht
          have HX := Lib.hid (ext_sub s p 1)
          have HW := Lib.hid (And.intro hR hwl)
          clear hR hwd hwl h5 h35 h34
          go_wp2_with fail
          go_at_call 23
          refine ht.mono ?_
          rintro e V ⟨rfl, c4, hL4⟩
          have S5 := HS4.out.move HH.out.2.2.1 (c4.mono (fun _ _ e => .inl e)) hL4 (c4.heap_at HS4.out.chr (by have := HH.out.2.2.1; omega)) (c4.heap_at HS4.out.tok (by have := HH.out.2.2.1; omega))
          clear c4 hL4 ht
          clear jb c0 c1 c2 c3 jk jc jt z0 z1 z2 z3 t0 t1 t2 t3 fz1 fz2 kz0 kz1 kz2 kz3 kt0 kt1 kt2 kt3
          obtain ⟨jb, c0, c1, c2, c3⟩ := S5.line.cells
          have jk : Old w.heap.size V := ⟨(Array.getElem?_eq_some_iff.1 S5.kin).1⟩
          have jc : Old (w.heap.size + 1) V := ⟨(Array.getElem?_eq_some_iff.1 S5.chr).1⟩
          have jt : Old (w.heap.size + 1 + 1) V := ⟨(Array.getElem?_eq_some_iff.1 S5.tok).1⟩
          have z0 : V.cell? ⟨w.heap.size + 1, 0, none⟩ = some (.int .i32 (rn s p)) := by rw [cell_of_row _ _ _ _ _ _ S5.chr]; rfl
          have z1 : V.cell? ⟨w.heap.size + 1, 1, none⟩ = some (.int .i64 0) := by rw [cell_of_row _ _ _ _ _ _ S5.chr]; rfl
          have z2 : V.cell? ⟨w.heap.size + 1, 2, none⟩ = some (.int .i64 (wd s p)) := by rw [cell_of_row _ _ _ _ _ _ S5.chr]; rfl
          have z3 : V.cell? ⟨w.heap.size + 1, 3, none⟩ = some (.bool (lo s p)) := by rw [cell_of_row _ _ _ _ _ _ S5.chr]; rfl
          have t0 : V.cell? ⟨w.heap.size + 1 + 1, 0, none⟩ = some tk := by rw [cell_of_row _ _ _ _ _ _ S5.tok]; rfl
          have t1 : V.cell? ⟨w.heap.size + 1 + 1, 1, none⟩ = some tt := by rw [cell_of_row _ _ _ _ _ _ S5.tok]; rfl
          have t2 : V.cell? ⟨w.heap.size + 1 + 1, 2, none⟩ = some (.int .i64 0) := by rw [cell_of_row _ _ _ _ _ _ S5.tok]; rfl
          have t3 : V.cell? ⟨w.heap.size + 1 + 1, 3, none⟩ = some (.int .i64 (col : Int)) := by rw [cell_of_row _ _ _ _ _ _ S5.tok]; rfl
          have fz1 : ∀ i, V.frozen? ⟨w.heap.size + 1, i, none⟩ = false := fun i => frozen_of_row _ _ _ _ _ S5.chr
          have fz2 : ∀ i, V.frozen? ⟨w.heap.size + 1 + 1, i, none⟩ = false := fun i => frozen_of_row _ _ _ _ _ S5.tok
          have fz3 : ∀ i, V.frozen? ⟨b, i, none⟩ = false := fun i => frozen_of_row _ _ _ _ _ S5.line
          have kz0 : HasCell V (w.heap.size + 1) 0 := ⟨by rw [z0]; rfl⟩
          have kt0 : HasCell V (w.heap.size + 1 + 1) 0 := ⟨by rw [t0]; rfl⟩
          have kz1 : HasCell V (w.heap.size + 1) 1 := ⟨by rw [z1]; rfl⟩
          have kt1 : HasCell V (w.heap.size + 1 + 1) 1 := ⟨by rw [t1]; rfl⟩
          have kz2 : HasCell V (w.heap.size + 1) 2 := ⟨by rw [z2]; rfl⟩
          have kt2 : HasCell V (w.heap.size + 1 + 1) 2 := ⟨by rw [t2]; rfl⟩
          have kz3 : HasCell V (w.heap.size + 1) 3 := ⟨by rw [z3]; rfl⟩
          have kt3 : HasCell V (w.heap.size + 1 + 1) 3 := ⟨by rw [t3]; rfl⟩
          have n3 : V.cell? ⟨w.heap.size, 3, none⟩ = some (.int .i64 3) := by rw [cell_of_row _ _ _ _ _ _ S5.kin]; rfl
          have n4 : V.cell? ⟨w.heap.size, 4, none⟩ = some (.int .i64 2) := by rw [cell_of_row _ _ _ _ _ _ S5.kin]; rfl
          have n5 : V.cell? ⟨w.heap.size, 5, none⟩ = some (.int .i64 5) := by rw [cell_of_row _ _ _ _ _ _ S5.kin]; rfl
          have HS5 := Lib.hid S5
          clear S5
          go_wp2_with fail
          refine wp_goto ?_
          show Exit.chain _ _ _ (n + 1 + 1) (.goto 2) _ _
          simp only [Exit.chain]
          refine ⟨_, (congrArg (findLabel · 2) HC.out).trans rfl, ?_⟩
          go_wp2_with fail
          obtain ⟨U, hU⟩ : ∃ U, ((V.setCell ⟨w.heap.size + 1 + 1, 1, none⟩ (.string (s.extract p (p + 1)))).setCell ⟨w.heap.size + 1 + 1, 0, none⟩ (.int .i64 5)) = U := ⟨_, rfl⟩
          have S6 := (HS5.out.setTok1 HH.out.2.2.1 (.string (s.extract p (p + 1)))).setTok0 HH.out.2.2.1 (.int .i64 5)
          rw [hU] at S6
          rw [hU]
          clear hU
          clear jb c0 c1 c2 c3 jk jc jt z0 z1 z2 z3 t0 t1 t2 t3 fz1 fz2 fz3 kz0 kz1 kz2 kz3 kt0 kt1 kt2 kt3 n3 n4 n5
          obtain ⟨jb, c0, c1, c2, c3⟩ := S6.line.cells
          have jk : Old w.heap.size U := ⟨(Array.getElem?_eq_some_iff.1 S6.kin).1⟩
          have jc : Old (w.heap.size + 1) U := ⟨(Array.getElem?_eq_some_iff.1 S6.chr).1⟩
          have jt : Old (w.heap.size + 1 + 1) U := ⟨(Array.getElem?_eq_some_iff.1 S6.tok).1⟩
          have z0 : U.cell? ⟨w.heap.size + 1, 0, none⟩ = some (.int .i32 (rn s p)) := by rw [cell_of_row _ _ _ _ _ _ S6.chr]; rfl
          have z1 : U.cell? ⟨w.heap.size + 1, 1, none⟩ = some (.int .i64 0) := by rw [cell_of_row _ _ _ _ _ _ S6.chr]; rfl
          have z2 : U.cell? ⟨w.heap.size + 1, 2, none⟩ = some (.int .i64 (wd s p)) := by rw [cell_of_row _ _ _ _ _ _ S6.chr]; rfl
          have z3 : U.cell? ⟨w.heap.size + 1, 3, none⟩ = some (.bool (lo s p)) := by rw [cell_of_row _ _ _ _ _ _ S6.chr]; rfl
          have t0 : U.cell? ⟨w.heap.size + 1 + 1, 0, none⟩ = some (.int .i64 5) := by rw [cell_of_row _ _ _ _ _ _ S6.tok]; rfl
          have t1 : U.cell? ⟨w.heap.size + 1 + 1, 1, none⟩ = some (.string (s.extract p (p + 1))) := by rw [cell_of_row _ _ _ _ _ _ S6.tok]; rfl
          have t2 : U.cell? ⟨w.heap.size + 1 + 1, 2, none⟩ = some (.int .i64 0) := by rw [cell_of_row _ _ _ _ _ _ S6.tok]; rfl
          have t3 : U.cell? ⟨w.heap.size + 1 + 1, 3, none⟩ = some (.int .i64 (col : Int)) := by rw [cell_of_row _ _ _ _ _ _ S6.tok]; rfl
          have fz1 : ∀ i, U.frozen? ⟨w.heap.size + 1, i, none⟩ = false := fun i => frozen_of_row _ _ _ _ _ S6.chr
          have fz2 : ∀ i, U.frozen? ⟨w.heap.size + 1 + 1, i, none⟩ = false := fun i => frozen_of_row _ _ _ _ _ S6.tok
          have fz3 : ∀ i, U.frozen? ⟨b, i, none⟩ = false := fun i => frozen_of_row _ _ _ _ _ S6.line
          have kz0 : HasCell U (w.heap.size + 1) 0 := ⟨by rw [z0]; rfl⟩
          have kt0 : HasCell U (w.heap.size + 1 + 1) 0 := ⟨by rw [t0]; rfl⟩
          have kz1 : HasCell U (w.heap.size + 1) 1 := ⟨by rw [z1]; rfl⟩
          have kt1 : HasCell U (w.heap.size + 1 + 1) 1 := ⟨by rw [t1]; rfl⟩
          have kz2 : HasCell U (w.heap.size + 1) 2 := ⟨by rw [z2]; rfl⟩
          have kt2 : HasCell U (w.heap.size + 1 + 1) 2 := ⟨by rw [t2]; rfl⟩
          have kz3 : HasCell U (w.heap.size + 1) 3 := ⟨by rw [z3]; rfl⟩
          have kt3 : HasCell U (w.heap.size + 1 + 1) 3 := ⟨by rw [t3]; rfl⟩
          have n3 : U.cell? ⟨w.heap.size, 3, none⟩ = some (.int .i64 3) := by rw [cell_of_row _ _ _ _ _ _ S6.kin]; rfl
          have n4 : U.cell? ⟨w.heap.size, 4, none⟩ = some (.int .i64 2) := by rw [cell_of_row _ _ _ _ _ _ S6.kin]; rfl
          have n5 : U.cell? ⟨w.heap.size, 5, none⟩ = some (.int .i64 5) := by rw [cell_of_row _ _ _ _ _ _ S6.kin]; rfl
          have HS6 := Lib.hid S6
          clear S6
          obtain ⟨i0, hi, hz0, hz1, hz2⟩ := info_parts infoTok
          have hown := HS6.out.own
          have hlen := HR.out.2.2.2.2.2.2.1
          have hsz := HH.out.2.1
          have hll := HR.out.2.2.2.1
          have hnp := Ear.own_ne HS6.out.own HS6.out.line (by decide)
          have hub := Nat.le_of_lt (Array.getElem?_eq_some_iff.1 HS6.out.tok).1
          go_region_law (refine step_append_lies _ rfl (.tmp 118) (.tmp 120) 29 rfl (w.heap.size + 3) 33 i0 _ 4 40 Tryd.underlying29 hi hz0 hz1 hz2 rfl (by decide) v out.length (fl 0 out) rfl (World.ownsRow.alloc (World.ownsRow.drew hown) _) ⟨_, 0, none⟩ 1 1 [.int .i64 5, .string (s.extract p (p + 1)), .int .i64 0, .int .i64 (col : Int)] rfl rfl (World.news_of_block (cs := #[.int .i64 5, .string (s.extract p (p + 1)), .int .i64 0, .int .i64 (col : Int)]) (heap_alloc_new _ _)) (by intro u hu; simp at hu; rcases hu with rfl | rfl | rfl | rfl <;> rfl) (by omega) (by simp only [maxLen]; omega) (by omega) (by have := (Array.getElem?_eq_some_iff.1 HS6.out.tok).1; simp; omega) _ rfl ?_; intro g cap w1 hown1 hgrow hat hlt; have y1 : w1.cell? ⟨b, 3, none⟩ = some v := (hgrow.cell_far ⟨b, 3, none⟩ (Old.lt (b := b)) (fun e => hnp b e.symm rfl)).trans (by simp [go_sem, c3]); have y2 : w1.frozen? ⟨b, 3, none⟩ = false := (hgrow.frozen_far ⟨b, 3, none⟩ (Old.lt (b := b)) (fun e => hnp b e.symm rfl)).trans (by simp [go_sem, fz3]))
          all_goals
            have S9 := HS6.out.push HH.out.2.2.1 (by repeat (with_reducible first | exact Chg.refl _ _ | assumption | refine chg_m ?_ _ | refine chg_g ?_ _ | refine chg_alloc ?_ _ | refine chg_drew ?_ | refine chg_drewN ?_ _ | refine chg_set ?_ _ _ _)) hgrow (⟨5, sub s p 1, col⟩ : Wd) _ (by simp only [tv]; rw [HX.out]; rfl) hown1
            clear hgrow hown1 hat hlt y1 y2
            go_wp2_with fail
            refine wp_goto ?_
            show Exit.chain _ _ _ (n + 1) (.goto 0) _ _
            simp only [Exit.chain]
            have hm2 := HR.out.2
            refine goto_of (IH.out (s.size - (p + 1)) (by have := HW.out.2; omega) (p + 1) (col + 1) (n) _ _ _ _ _ _ _ _ _ _ _ _ _ _ _ _ _ _ _ _ _ _ _ _ _ _ _ _ _ _ _ _ _ _ _ _ _ _ _ _ _ _ _ _ _ _ _ _ _ _ _ _ _ _ _ _ _ _ _ _ _ _ _ _ _ _ _ _ _ _ _ _ _ _ _ _ _ _ _ _ _ _ _ _ _ _ _ _ _ _ _ _ _ _ _ _ _ _ _ _ _ _ _ _ _ _ _ _ _ _ _ _ _ _ _ _ _ _ _ _ _ _ _ _ _ _ _ _ _ _ _ _ _ _ _ _ _ _ _ _ _ _ _ _ _ _ _ _ _ _ rfl (by have := HW.out.2; omega) (by have := HW.out.2; omega) (by have := HW.out.2; omega) (by have := HW.out.2; simp; omega) HW.out.1 S9)
        · rw [if_neg (by omega), if_neg h35, if_neg h34, if_neg (by omega), if_pos h5] at hR
          rw [h5]
          have hrf := run_first HR.out.2.2.2.1 (.inr h5)
          obtain ⟨q, k, hrun⟩ : ∃ q k, run s p = (q, k) := ⟨_, _, rfl⟩
          have hRn := fun W hL => run_any b s p col v W hL (by have := HR.out.2.2.2.1; omega) (by have := HH.out.2.1; omega)
          rw [hrun] at hR hrf hRn
          obtain ⟨l, rfl⟩ : ∃ l, q = p + l := ⟨q - p, by simp only at hrf; omega⟩
          simp only [Nat.add_sub_cancel_left] at hR hrf hRn
          have y35 : (rn s p == 35) = false := beq_eq_false_iff_ne.2 h35
          have y34 : (rn s p == 34) = false := beq_eq_false_iff_ne.2 h34
          have hN := fun W => number_any (s.extract p (p + l)) W (by rw [ByteArray.size_extract]; have := HH.out.2.1; omega)
          unfold numRes at hN
          rw [show (s.extract p (p + l)).data.toList = sub s p l by rw [ext_sub]] at hN
          have ht := fun W hL => take_any b s p col l k v W hL hrf.2.1 (by have := HH.out.2.1; omega) (by have := HR.out.2.2.2.2.2.1; have := HH.out.2.1; omega)
          have hpn : wrap64 ((p : Int) + (l : Int)) = ((p + l : Nat) : Int) := by rw [wid] <;> (have := HH.out.2.1; omega)
          have q1 : ((p + l : Nat) : Int) ≤ (s.size : Int) := by have := hrf.2.1; omega
          have q2 : (p : Int) ≤ ((p + l : Nat) : Int) := by omega
          have HX := Lib.hid (ext_sub s p l)
          clear h35 h34 h5
          by_cases hk : 128 < k
          · rw [if_pos hk] at hR
            have y128 : decide ((128 : Int) < (k : Int)) = true := decide_eq_true (by omega)
            have HW := Lib.hid hR
            clear hR hrf hN hk
            go_wp2_with fail
            refine wp_goto ?_
            show Exit.chain _ _ _ (n + 1 + 1) (.goto 3) _ _
            simp only [Exit.chain]
            refine ⟨_, (congrArg (findLabel · 3) HC.out).trans rfl, ?_⟩
            go_wp2_with fail
            go_at_call 24
            refine (hRn _ HS4.out.line).mono ?_
            rintro e V ⟨rfl, g7, hV⟩
            have S5 := HS4.out.grow HH.out.2.2.1 g7.h
            rw [← hV] at S5
            clear hV g7 hRn
            clear jb c0 c1 c2 c3 jk jc jt z0 z1 z2 z3 t0 t1 t2 t3 fz1 fz2 kz0 kz1 kz2 kz3 kt0 kt1 kt2 kt3
            obtain ⟨jb, c0, c1, c2, c3⟩ := S5.line.cells
            have jk : Old w.heap.size V := ⟨(Array.getElem?_eq_some_iff.1 S5.kin).1⟩
            have jc : Old (w.heap.size + 1) V := ⟨(Array.getElem?_eq_some_iff.1 S5.chr).1⟩
            have jt : Old (w.heap.size + 1 + 1) V := ⟨(Array.getElem?_eq_some_iff.1 S5.tok).1⟩
            have z0 : V.cell? ⟨w.heap.size + 1, 0, none⟩ = some (.int .i32 (rn s p)) := by rw [cell_of_row _ _ _ _ _ _ S5.chr]; rfl
            have z1 : V.cell? ⟨w.heap.size + 1, 1, none⟩ = some (.int .i64 0) := by rw [cell_of_row _ _ _ _ _ _ S5.chr]; rfl
            have z2 : V.cell? ⟨w.heap.size + 1, 2, none⟩ = some (.int .i64 (wd s p)) := by rw [cell_of_row _ _ _ _ _ _ S5.chr]; rfl
            have z3 : V.cell? ⟨w.heap.size + 1, 3, none⟩ = some (.bool (lo s p)) := by rw [cell_of_row _ _ _ _ _ _ S5.chr]; rfl
            have t0 : V.cell? ⟨w.heap.size + 1 + 1, 0, none⟩ = some tk := by rw [cell_of_row _ _ _ _ _ _ S5.tok]; rfl
            have t1 : V.cell? ⟨w.heap.size + 1 + 1, 1, none⟩ = some tt := by rw [cell_of_row _ _ _ _ _ _ S5.tok]; rfl
            have t2 : V.cell? ⟨w.heap.size + 1 + 1, 2, none⟩ = some (.int .i64 0) := by rw [cell_of_row _ _ _ _ _ _ S5.tok]; rfl
            have t3 : V.cell? ⟨w.heap.size + 1 + 1, 3, none⟩ = some (.int .i64 (col : Int)) := by rw [cell_of_row _ _ _ _ _ _ S5.tok]; rfl
            have fz1 : ∀ i, V.frozen? ⟨w.heap.size + 1, i, none⟩ = false := fun i => frozen_of_row _ _ _ _ _ S5.chr
            have fz2 : ∀ i, V.frozen? ⟨w.heap.size + 1 + 1, i, none⟩ = false := fun i => frozen_of_row _ _ _ _ _ S5.tok
            have fz3 : ∀ i, V.frozen? ⟨b, i, none⟩ = false := fun i => frozen_of_row _ _ _ _ _ S5.line
            have kz0 : HasCell V (w.heap.size + 1) 0 := ⟨by rw [z0]; rfl⟩
            have kt0 : HasCell V (w.heap.size + 1 + 1) 0 := ⟨by rw [t0]; rfl⟩
            have kz1 : HasCell V (w.heap.size + 1) 1 := ⟨by rw [z1]; rfl⟩
            have kt1 : HasCell V (w.heap.size + 1 + 1) 1 := ⟨by rw [t1]; rfl⟩
            have kz2 : HasCell V (w.heap.size + 1) 2 := ⟨by rw [z2]; rfl⟩
            have kt2 : HasCell V (w.heap.size + 1 + 1) 2 := ⟨by rw [t2]; rfl⟩
            have kz3 : HasCell V (w.heap.size + 1) 3 := ⟨by rw [z3]; rfl⟩
            have kt3 : HasCell V (w.heap.size + 1 + 1) 3 := ⟨by rw [t3]; rfl⟩
            have n3 : V.cell? ⟨w.heap.size, 3, none⟩ = some (.int .i64 3) := by rw [cell_of_row _ _ _ _ _ _ S5.kin]; rfl
            have n4 : V.cell? ⟨w.heap.size, 4, none⟩ = some (.int .i64 2) := by rw [cell_of_row _ _ _ _ _ _ S5.kin]; rfl
            have n5 : V.cell? ⟨w.heap.size, 5, none⟩ = some (.int .i64 5) := by rw [cell_of_row _ _ _ _ _ _ S5.kin]; rfl
            have HS5 := Lib.hid S5
            clear S5
            go_wp2_with fail
            rw [chain_ret]
            refine bodyPost_ret (v := .int .i64 22) (by simp [results, Tryd.results12, go_sem]) rfl ?_
            unfold WordsPost
            rw [← HW.out]
            exact ⟨rfl, HS5.out.chg, p, v, HS5.out.line⟩
          · rw [if_neg hk] at hR
            have y128 : decide ((128 : Int) < (k : Int)) = false := decide_eq_false (by omega)
            obtain ⟨nv, nb, hnv⟩ : ∃ (nv : Int) (nb : Bool), (if numW (sub s p l) < 0 then .tuple #[.int .i64 0, .bool false] else .tuple #[.int .i64 (numW (sub s p l)), .bool true] : Value) = .tuple #[.int .i64 nv, .bool nb] := by
              by_cases h : numW (sub s p l) < 0
              · exact ⟨0, false, by rw [if_pos h]⟩
              · exact ⟨_, true, by rw [if_neg h]⟩
            rw [hnv] at hN
            have HW := Lib.hid (And.intro hR hrf)
            clear hR hrf hk hnv
            go_wp2_with fail
            refine wp_goto ?_
            show Exit.chain _ _ _ (n + 1 + 1) (.goto 3) _ _
            simp only [Exit.chain]
            refine ⟨_, (congrArg (findLabel · 3) HC.out).trans rfl, ?_⟩
            go_wp2_with fail
            go_at_call 24
            refine (hRn _ HS4.out.line).mono ?_
            rintro e V ⟨rfl, g7, hV⟩
            have S5 := HS4.out.grow HH.out.2.2.1 g7.h
            rw [← hV] at S5
            clear hV g7 hRn
            clear jb c0 c1 c2 c3 jk jc jt z0 z1 z2 z3 t0 t1 t2 t3 fz1 fz2 kz0 kz1 kz2 kz3 kt0 kt1 kt2 kt3
            obtain ⟨jb, c0, c1, c2, c3⟩ := S5.line.cells
            have jk : Old w.heap.size V := ⟨(Array.getElem?_eq_some_iff.1 S5.kin).1⟩
            have jc : Old (w.heap.size + 1) V := ⟨(Array.getElem?_eq_some_iff.1 S5.chr).1⟩
            have jt : Old (w.heap.size + 1 + 1) V := ⟨(Array.getElem?_eq_some_iff.1 S5.tok).1⟩
            have z0 : V.cell? ⟨w.heap.size + 1, 0, none⟩ = some (.int .i32 (rn s p)) := by rw [cell_of_row _ _ _ _ _ _ S5.chr]; rfl
            have z1 : V.cell? ⟨w.heap.size + 1, 1, none⟩ = some (.int .i64 0) := by rw [cell_of_row _ _ _ _ _ _ S5.chr]; rfl
            have z2 : V.cell? ⟨w.heap.size + 1, 2, none⟩ = some (.int .i64 (wd s p)) := by rw [cell_of_row _ _ _ _ _ _ S5.chr]; rfl
            have z3 : V.cell? ⟨w.heap.size + 1, 3, none⟩ = some (.bool (lo s p)) := by rw [cell_of_row _ _ _ _ _ _ S5.chr]; rfl
            have t0 : V.cell? ⟨w.heap.size + 1 + 1, 0, none⟩ = some tk := by rw [cell_of_row _ _ _ _ _ _ S5.tok]; rfl
            have t1 : V.cell? ⟨w.heap.size + 1 + 1, 1, none⟩ = some tt := by rw [cell_of_row _ _ _ _ _ _ S5.tok]; rfl
            have t2 : V.cell? ⟨w.heap.size + 1 + 1, 2, none⟩ = some (.int .i64 0) := by rw [cell_of_row _ _ _ _ _ _ S5.tok]; rfl
            have t3 : V.cell? ⟨w.heap.size + 1 + 1, 3, none⟩ = some (.int .i64 (col : Int)) := by rw [cell_of_row _ _ _ _ _ _ S5.tok]; rfl
            have fz1 : ∀ i, V.frozen? ⟨w.heap.size + 1, i, none⟩ = false := fun i => frozen_of_row _ _ _ _ _ S5.chr
            have fz2 : ∀ i, V.frozen? ⟨w.heap.size + 1 + 1, i, none⟩ = false := fun i => frozen_of_row _ _ _ _ _ S5.tok
            have fz3 : ∀ i, V.frozen? ⟨b, i, none⟩ = false := fun i => frozen_of_row _ _ _ _ _ S5.line
            have kz0 : HasCell V (w.heap.size + 1) 0 := ⟨by rw [z0]; rfl⟩
            have kt0 : HasCell V (w.heap.size + 1 + 1) 0 := ⟨by rw [t0]; rfl⟩
            have kz1 : HasCell V (w.heap.size + 1) 1 := ⟨by rw [z1]; rfl⟩
            have kt1 : HasCell V (w.heap.size + 1 + 1) 1 := ⟨by rw [t1]; rfl⟩
            have kz2 : HasCell V (w.heap.size + 1) 2 := ⟨by rw [z2]; rfl⟩
            have kt2 : HasCell V (w.heap.size + 1 + 1) 2 := ⟨by rw [t2]; rfl⟩
            have kz3 : HasCell V (w.heap.size + 1) 3 := ⟨by rw [z3]; rfl⟩
            have kt3 : HasCell V (w.heap.size + 1 + 1) 3 := ⟨by rw [t3]; rfl⟩
            have n3 : V.cell? ⟨w.heap.size, 3, none⟩ = some (.int .i64 3) := by rw [cell_of_row _ _ _ _ _ _ S5.kin]; rfl
            have n4 : V.cell? ⟨w.heap.size, 4, none⟩ = some (.int .i64 2) := by rw [cell_of_row _ _ _ _ _ _ S5.kin]; rfl
            have n5 : V.cell? ⟨w.heap.size, 5, none⟩ = some (.int .i64 5) := by rw [cell_of_row _ _ _ _ _ _ S5.kin]; rfl
            have HS5 := Lib.hid S5
            clear S5
            go_wp2_with fail
            refine wp_region_grows (by kernel_rfl) (by kernel_rfl) ?_
            repeat (go_big_quiet_step ((go_at_call 25; exact grows_of (hN _))))
            refine wpQuiet_nil ?_
            rintro _ ⟨g8, rfl⟩
            go_wp2_with fail
            go_at_call 23
            refine (ht _ (HS5.out.grow HH.out.2.2.1 g8.h).line).mono ?_
            rintro e V2 ⟨rfl, c4, hL4⟩
            have S7 := (HS5.out.grow HH.out.2.2.1 g8.h).move HH.out.2.2.1 (c4.mono (fun _ _ e => .inl e)) hL4 (c4.heap_at (HS5.out.grow HH.out.2.2.1 g8.h).chr (by have := HH.out.2.2.1; omega)) (c4.heap_at (HS5.out.grow HH.out.2.2.1 g8.h).tok (by have := HH.out.2.2.1; omega))
            clear c4 hL4 ht
            clear jb c0 c1 c2 c3 jk jc jt z0 z1 z2 z3 t0 t1 t2 t3 fz1 fz2 fz3 kz0 kz1 kz2 kz3 kt0 kt1 kt2 kt3 n3 n4 n5
            obtain ⟨jb, c0, c1, c2, c3⟩ := S7.line.cells
            have jk : Old w.heap.size V2 := ⟨(Array.getElem?_eq_some_iff.1 S7.kin).1⟩
            have jc : Old (w.heap.size + 1) V2 := ⟨(Array.getElem?_eq_some_iff.1 S7.chr).1⟩
            have jt : Old (w.heap.size + 1 + 1) V2 := ⟨(Array.getElem?_eq_some_iff.1 S7.tok).1⟩
            have z0 : V2.cell? ⟨w.heap.size + 1, 0, none⟩ = some (.int .i32 (rn s p)) := by rw [cell_of_row _ _ _ _ _ _ S7.chr]; rfl
            have z1 : V2.cell? ⟨w.heap.size + 1, 1, none⟩ = some (.int .i64 0) := by rw [cell_of_row _ _ _ _ _ _ S7.chr]; rfl
            have z2 : V2.cell? ⟨w.heap.size + 1, 2, none⟩ = some (.int .i64 (wd s p)) := by rw [cell_of_row _ _ _ _ _ _ S7.chr]; rfl
            have z3 : V2.cell? ⟨w.heap.size + 1, 3, none⟩ = some (.bool (lo s p)) := by rw [cell_of_row _ _ _ _ _ _ S7.chr]; rfl
            have t0 : V2.cell? ⟨w.heap.size + 1 + 1, 0, none⟩ = some tk := by rw [cell_of_row _ _ _ _ _ _ S7.tok]; rfl
            have t1 : V2.cell? ⟨w.heap.size + 1 + 1, 1, none⟩ = some tt := by rw [cell_of_row _ _ _ _ _ _ S7.tok]; rfl
            have t2 : V2.cell? ⟨w.heap.size + 1 + 1, 2, none⟩ = some (.int .i64 0) := by rw [cell_of_row _ _ _ _ _ _ S7.tok]; rfl
            have t3 : V2.cell? ⟨w.heap.size + 1 + 1, 3, none⟩ = some (.int .i64 (col : Int)) := by rw [cell_of_row _ _ _ _ _ _ S7.tok]; rfl
            have fz1 : ∀ i, V2.frozen? ⟨w.heap.size + 1, i, none⟩ = false := fun i => frozen_of_row _ _ _ _ _ S7.chr
            have fz2 : ∀ i, V2.frozen? ⟨w.heap.size + 1 + 1, i, none⟩ = false := fun i => frozen_of_row _ _ _ _ _ S7.tok
            have fz3 : ∀ i, V2.frozen? ⟨b, i, none⟩ = false := fun i => frozen_of_row _ _ _ _ _ S7.line
            have kz0 : HasCell V2 (w.heap.size + 1) 0 := ⟨by rw [z0]; rfl⟩
            have kt0 : HasCell V2 (w.heap.size + 1 + 1) 0 := ⟨by rw [t0]; rfl⟩
            have kz1 : HasCell V2 (w.heap.size + 1) 1 := ⟨by rw [z1]; rfl⟩
            have kt1 : HasCell V2 (w.heap.size + 1 + 1) 1 := ⟨by rw [t1]; rfl⟩
            have kz2 : HasCell V2 (w.heap.size + 1) 2 := ⟨by rw [z2]; rfl⟩
            have kt2 : HasCell V2 (w.heap.size + 1 + 1) 2 := ⟨by rw [t2]; rfl⟩
            have kz3 : HasCell V2 (w.heap.size + 1) 3 := ⟨by rw [z3]; rfl⟩
            have kt3 : HasCell V2 (w.heap.size + 1 + 1) 3 := ⟨by rw [t3]; rfl⟩
            have n3 : V2.cell? ⟨w.heap.size, 3, none⟩ = some (.int .i64 3) := by rw [cell_of_row _ _ _ _ _ _ S7.kin]; rfl
            have n4 : V2.cell? ⟨w.heap.size, 4, none⟩ = some (.int .i64 2) := by rw [cell_of_row _ _ _ _ _ _ S7.kin]; rfl
            have n5 : V2.cell? ⟨w.heap.size, 5, none⟩ = some (.int .i64 5) := by rw [cell_of_row _ _ _ _ _ _ S7.kin]; rfl
            have HS7 := Lib.hid S7
            clear S7
            go_wp2_with fail
            refine wp_label ?_
            go_wp2_with fail
            obtain ⟨U, hU⟩ : ∃ U, ((V2.setCell ⟨w.heap.size + 1 + 1, 1, none⟩ (.string (s.extract p (p + l)))).setCell ⟨w.heap.size + 1 + 1, 0, none⟩ (.int .i64 2)) = U := ⟨_, rfl⟩
            have S6 := (HS7.out.setTok1 HH.out.2.2.1 (.string (s.extract p (p + l)))).setTok0 HH.out.2.2.1 (.int .i64 2)
            rw [hU] at S6
            rw [hU]
            clear hU
            clear jb c0 c1 c2 c3 jk jc jt z0 z1 z2 z3 t0 t1 t2 t3 fz1 fz2 fz3 kz0 kz1 kz2 kz3 kt0 kt1 kt2 kt3 n3 n4 n5
            obtain ⟨jb, c0, c1, c2, c3⟩ := S6.line.cells
            have jk : Old w.heap.size U := ⟨(Array.getElem?_eq_some_iff.1 S6.kin).1⟩
            have jc : Old (w.heap.size + 1) U := ⟨(Array.getElem?_eq_some_iff.1 S6.chr).1⟩
            have jt : Old (w.heap.size + 1 + 1) U := ⟨(Array.getElem?_eq_some_iff.1 S6.tok).1⟩
            have z0 : U.cell? ⟨w.heap.size + 1, 0, none⟩ = some (.int .i32 (rn s p)) := by rw [cell_of_row _ _ _ _ _ _ S6.chr]; rfl
            have z1 : U.cell? ⟨w.heap.size + 1, 1, none⟩ = some (.int .i64 0) := by rw [cell_of_row _ _ _ _ _ _ S6.chr]; rfl
            have z2 : U.cell? ⟨w.heap.size + 1, 2, none⟩ = some (.int .i64 (wd s p)) := by rw [cell_of_row _ _ _ _ _ _ S6.chr]; rfl
            have z3 : U.cell? ⟨w.heap.size + 1, 3, none⟩ = some (.bool (lo s p)) := by rw [cell_of_row _ _ _ _ _ _ S6.chr]; rfl
            have t0 : U.cell? ⟨w.heap.size + 1 + 1, 0, none⟩ = some (.int .i64 2) := by rw [cell_of_row _ _ _ _ _ _ S6.tok]; rfl
            have t1 : U.cell? ⟨w.heap.size + 1 + 1, 1, none⟩ = some (.string (s.extract p (p + l))) := by rw [cell_of_row _ _ _ _ _ _ S6.tok]; rfl
            have t2 : U.cell? ⟨w.heap.size + 1 + 1, 2, none⟩ = some (.int .i64 0) := by rw [cell_of_row _ _ _ _ _ _ S6.tok]; rfl
            have t3 : U.cell? ⟨w.heap.size + 1 + 1, 3, none⟩ = some (.int .i64 (col : Int)) := by rw [cell_of_row _ _ _ _ _ _ S6.tok]; rfl
            have fz1 : ∀ i, U.frozen? ⟨w.heap.size + 1, i, none⟩ = false := fun i => frozen_of_row _ _ _ _ _ S6.chr
            have fz2 : ∀ i, U.frozen? ⟨w.heap.size + 1 + 1, i, none⟩ = false := fun i => frozen_of_row _ _ _ _ _ S6.tok
            have fz3 : ∀ i, U.frozen? ⟨b, i, none⟩ = false := fun i => frozen_of_row _ _ _ _ _ S6.line
            have kz0 : HasCell U (w.heap.size + 1) 0 := ⟨by rw [z0]; rfl⟩
            have kt0 : HasCell U (w.heap.size + 1 + 1) 0 := ⟨by rw [t0]; rfl⟩
            have kz1 : HasCell U (w.heap.size + 1) 1 := ⟨by rw [z1]; rfl⟩
            have kt1 : HasCell U (w.heap.size + 1 + 1) 1 := ⟨by rw [t1]; rfl⟩
            have kz2 : HasCell U (w.heap.size + 1) 2 := ⟨by rw [z2]; rfl⟩
            have kt2 : HasCell U (w.heap.size + 1 + 1) 2 := ⟨by rw [t2]; rfl⟩
            have kz3 : HasCell U (w.heap.size + 1) 3 := ⟨by rw [z3]; rfl⟩
            have kt3 : HasCell U (w.heap.size + 1 + 1) 3 := ⟨by rw [t3]; rfl⟩
            have n3 : U.cell? ⟨w.heap.size, 3, none⟩ = some (.int .i64 3) := by rw [cell_of_row _ _ _ _ _ _ S6.kin]; rfl
            have n4 : U.cell? ⟨w.heap.size, 4, none⟩ = some (.int .i64 2) := by rw [cell_of_row _ _ _ _ _ _ S6.kin]; rfl
            have n5 : U.cell? ⟨w.heap.size, 5, none⟩ = some (.int .i64 5) := by rw [cell_of_row _ _ _ _ _ _ S6.kin]; rfl
            have HS6 := Lib.hid S6
            clear S6
            obtain ⟨i0, hi, hz0, hz1, hz2⟩ := info_parts infoTok
            have hown := HS6.out.own
            have hlen := HR.out.2.2.2.2.2.2.1
            have hsz := HH.out.2.1
            have hll := HR.out.2.2.2.1
            have hnp := Ear.own_ne HS6.out.own HS6.out.line (by decide)
            have hub := Nat.le_of_lt (Array.getElem?_eq_some_iff.1 HS6.out.tok).1
            go_region_law (refine step_append_lies _ rfl (.tmp 118) (.tmp 120) 29 rfl (w.heap.size + 3) 33 i0 _ 4 40 Tryd.underlying29 hi hz0 hz1 hz2 rfl (by decide) v out.length (fl 0 out) rfl (World.ownsRow.alloc (World.ownsRow.drew hown) _) ⟨_, 0, none⟩ 1 1 [.int .i64 2, .string (s.extract p (p + l)), .int .i64 0, .int .i64 (col : Int)] rfl rfl (World.news_of_block (cs := #[.int .i64 2, .string (s.extract p (p + l)), .int .i64 0, .int .i64 (col : Int)]) (heap_alloc_new _ _)) (by intro u hu; simp at hu; rcases hu with rfl | rfl | rfl | rfl <;> rfl) (by omega) (by simp only [maxLen]; omega) (by omega) (by have := (Array.getElem?_eq_some_iff.1 HS6.out.tok).1; simp; omega) _ rfl ?_; intro g cap w1 hown1 hgrow hat hlt; have y1 : w1.cell? ⟨b, 3, none⟩ = some v := (hgrow.cell_far ⟨b, 3, none⟩ (Old.lt (b := b)) (fun e => hnp b e.symm rfl)).trans (by simp [go_sem, c3]); have y2 : w1.frozen? ⟨b, 3, none⟩ = false := (hgrow.frozen_far ⟨b, 3, none⟩ (Old.lt (b := b)) (fun e => hnp b e.symm rfl)).trans (by simp [go_sem, fz3]))
            all_goals
              have S9 := HS6.out.push HH.out.2.2.1 (by repeat (with_reducible first | exact Chg.refl _ _ | assumption | refine chg_m ?_ _ | refine chg_g ?_ _ | refine chg_alloc ?_ _ | refine chg_drew ?_ | refine chg_drewN ?_ _ | refine chg_set ?_ _ _ _)) hgrow (⟨2, sub s p l, col⟩ : Wd) _ (by simp only [tv]; rw [HX.out]; rfl) hown1
              clear hgrow hown1 hat hlt y1 y2
              go_wp2_with fail
              refine wp_goto ?_
              show Exit.chain _ _ _ (n + 1) (.goto 0) _ _
              simp only [Exit.chain]
              have hm2 := HR.out.2
              refine goto_of (IH.out (s.size - (p + l)) (by have := HW.out.2; omega) (p + l) (col + k) (n) _ _ _ _ _ _ _ _ _ _ _ _ _ _ _ _ _ _ _ _ _ _ _ _ _ _ _ _ _ _ _ _ _ _ _ _ _ _ _ _ _ _ _ _ _ _ _ _ _ _ _ _ _ _ _ _ _ _ _ _ _ _ _ _ _ _ _ _ _ _ _ _ _ _ _ _ _ _ _ _ _ _ _ _ _ _ _ _ _ _ _ _ _ _ _ _ _ _ _ _ _ _ _ _ _ _ _ _ _ _ _ _ _ _ _ _ _ _ _ _ _ _ _ _ _ _ _ _ _ _ _ _ _ _ _ _ _ _ _ _ _ _ _ _ _ _ _ _ _ _ rfl (by have := HW.out.2; omega) (by have := HW.out.2; omega) (by have := HW.out.2; omega) (by have := HW.out.2; simp; omega) HW.out.1 S9)
        · rw [if_neg (by omega), if_neg h35, if_neg h34, if_neg (by omega), if_neg (by omega), if_pos h5] at hR
          rw [h5]
          have hrf := run_first HR.out.2.2.2.1 (.inl h5)
          obtain ⟨q, k, hrun⟩ : ∃ q k, run s p = (q, k) := ⟨_, _, rfl⟩
          have hRn := fun W hL => run_any b s p col v W hL (by have := HR.out.2.2.2.1; omega) (by have := HH.out.2.1; omega)
          rw [hrun] at hR hrf hRn
          obtain ⟨l, rfl⟩ : ∃ l, q = p + l := ⟨q - p, by simp only at hrf; omega⟩
          simp only [Nat.add_sub_cancel_left] at hR hrf hRn
          have y35 : (rn s p == 35) = false := beq_eq_false_iff_ne.2 h35
          have y34 : (rn s p == 34) = false := beq_eq_false_iff_ne.2 h34
          have hN := fun W => number_any (s.extract p (p + l)) W (by rw [ByteArray.size_extract]; have := HH.out.2.1; omega)
          unfold numRes at hN
          rw [show (s.extract p (p + l)).data.toList = sub s p l by rw [ext_sub]] at hN
          have ht := fun W hL => take_any b s p col l k v W hL hrf.2.1 (by have := HH.out.2.1; omega) (by have := HR.out.2.2.2.2.2.1; have := HH.out.2.1; omega)
          have hpn : wrap64 ((p : Int) + (l : Int)) = ((p + l : Nat) : Int) := by rw [wid] <;> (have := HH.out.2.1; omega)
          have q1 : ((p + l : Nat) : Int) ≤ (s.size : Int) := by have := hrf.2.1; omega
          have q2 : (p : Int) ≤ ((p + l : Nat) : Int) := by omega
          have HX := Lib.hid (ext_sub s p l)
          clear h35 h34 h5
          by_cases hk : numW (sub s p l) < 0
          · rw [if_pos hk] at hR hN
            have HW := Lib.hid hR
            clear hR hrf hk
            go_wp2_with fail
            refine wp_goto ?_
            show Exit.chain _ _ _ (n + 1 + 1) (.goto 3) _ _
            simp only [Exit.chain]
            refine ⟨_, (congrArg (findLabel · 3) HC.out).trans rfl, ?_⟩
            go_wp2_with fail
            go_at_call 24
            refine (hRn _ HS4.out.line).mono ?_
            rintro e V ⟨rfl, g7, hV⟩
            have S5 := HS4.out.grow HH.out.2.2.1 g7.h
            rw [← hV] at S5
            clear hV g7 hRn
            clear jb c0 c1 c2 c3 jk jc jt z0 z1 z2 z3 t0 t1 t2 t3 fz1 fz2 kz0 kz1 kz2 kz3 kt0 kt1 kt2 kt3
            obtain ⟨jb, c0, c1, c2, c3⟩ := S5.line.cells
            have jk : Old w.heap.size V := ⟨(Array.getElem?_eq_some_iff.1 S5.kin).1⟩
            have jc : Old (w.heap.size + 1) V := ⟨(Array.getElem?_eq_some_iff.1 S5.chr).1⟩
            have jt : Old (w.heap.size + 1 + 1) V := ⟨(Array.getElem?_eq_some_iff.1 S5.tok).1⟩
            have z0 : V.cell? ⟨w.heap.size + 1, 0, none⟩ = some (.int .i32 (rn s p)) := by rw [cell_of_row _ _ _ _ _ _ S5.chr]; rfl
            have z1 : V.cell? ⟨w.heap.size + 1, 1, none⟩ = some (.int .i64 0) := by rw [cell_of_row _ _ _ _ _ _ S5.chr]; rfl
            have z2 : V.cell? ⟨w.heap.size + 1, 2, none⟩ = some (.int .i64 (wd s p)) := by rw [cell_of_row _ _ _ _ _ _ S5.chr]; rfl
            have z3 : V.cell? ⟨w.heap.size + 1, 3, none⟩ = some (.bool (lo s p)) := by rw [cell_of_row _ _ _ _ _ _ S5.chr]; rfl
            have t0 : V.cell? ⟨w.heap.size + 1 + 1, 0, none⟩ = some tk := by rw [cell_of_row _ _ _ _ _ _ S5.tok]; rfl
            have t1 : V.cell? ⟨w.heap.size + 1 + 1, 1, none⟩ = some tt := by rw [cell_of_row _ _ _ _ _ _ S5.tok]; rfl
            have t2 : V.cell? ⟨w.heap.size + 1 + 1, 2, none⟩ = some (.int .i64 0) := by rw [cell_of_row _ _ _ _ _ _ S5.tok]; rfl
            have t3 : V.cell? ⟨w.heap.size + 1 + 1, 3, none⟩ = some (.int .i64 (col : Int)) := by rw [cell_of_row _ _ _ _ _ _ S5.tok]; rfl
            have fz1 : ∀ i, V.frozen? ⟨w.heap.size + 1, i, none⟩ = false := fun i => frozen_of_row _ _ _ _ _ S5.chr
            have fz2 : ∀ i, V.frozen? ⟨w.heap.size + 1 + 1, i, none⟩ = false := fun i => frozen_of_row _ _ _ _ _ S5.tok
            have fz3 : ∀ i, V.frozen? ⟨b, i, none⟩ = false := fun i => frozen_of_row _ _ _ _ _ S5.line
            have kz0 : HasCell V (w.heap.size + 1) 0 := ⟨by rw [z0]; rfl⟩
            have kt0 : HasCell V (w.heap.size + 1 + 1) 0 := ⟨by rw [t0]; rfl⟩
            have kz1 : HasCell V (w.heap.size + 1) 1 := ⟨by rw [z1]; rfl⟩
            have kt1 : HasCell V (w.heap.size + 1 + 1) 1 := ⟨by rw [t1]; rfl⟩
            have kz2 : HasCell V (w.heap.size + 1) 2 := ⟨by rw [z2]; rfl⟩
            have kt2 : HasCell V (w.heap.size + 1 + 1) 2 := ⟨by rw [t2]; rfl⟩
            have kz3 : HasCell V (w.heap.size + 1) 3 := ⟨by rw [z3]; rfl⟩
            have kt3 : HasCell V (w.heap.size + 1 + 1) 3 := ⟨by rw [t3]; rfl⟩
            have n3 : V.cell? ⟨w.heap.size, 3, none⟩ = some (.int .i64 3) := by rw [cell_of_row _ _ _ _ _ _ S5.kin]; rfl
            have n4 : V.cell? ⟨w.heap.size, 4, none⟩ = some (.int .i64 2) := by rw [cell_of_row _ _ _ _ _ _ S5.kin]; rfl
            have n5 : V.cell? ⟨w.heap.size, 5, none⟩ = some (.int .i64 5) := by rw [cell_of_row _ _ _ _ _ _ S5.kin]; rfl
            have HS5 := Lib.hid S5
            clear S5
            go_wp2_with fail
            refine wp_region_grows (by kernel_rfl) (by kernel_rfl) ?_
            repeat (go_big_quiet_step ((go_at_call 25; exact grows_of (hN _))))
            refine wpQuiet_nil ?_
            rintro _ ⟨g8, rfl⟩
            go_wp2_with fail
            rw [chain_ret]
            refine bodyPost_ret (v := .int .i64 21) (by simp [results, Tryd.results12, go_sem]) rfl ?_
            unfold WordsPost
            rw [← HW.out]
            exact ⟨rfl, (HS5.out.grow HH.out.2.2.1 g8.h).chg, p, v, (HS5.out.grow HH.out.2.2.1 g8.h).line⟩
          · rw [if_neg hk] at hR hN
            obtain ⟨nv, hnv⟩ : ∃ nv, numW (sub s p l) = nv := ⟨_, rfl⟩
            rw [hnv] at hN
            have HW := Lib.hid (And.intro hR hrf)
            clear hR hrf hk hnv
            go_wp2_with fail
            refine wp_goto ?_
            show Exit.chain _ _ _ (n + 1 + 1) (.goto 3) _ _
            simp only [Exit.chain]
            refine ⟨_, (congrArg (findLabel · 3) HC.out).trans rfl, ?_⟩
            go_wp2_with fail
            go_at_call 24
            refine (hRn _ HS4.out.line).mono ?_
            rintro e V ⟨rfl, g7, hV⟩
            have S5 := HS4.out.grow HH.out.2.2.1 g7.h
            rw [← hV] at S5
            clear hV g7 hRn
            clear jb c0 c1 c2 c3 jk jc jt z0 z1 z2 z3 t0 t1 t2 t3 fz1 fz2 kz0 kz1 kz2 kz3 kt0 kt1 kt2 kt3
            obtain ⟨jb, c0, c1, c2, c3⟩ := S5.line.cells
            have jk : Old w.heap.size V := ⟨(Array.getElem?_eq_some_iff.1 S5.kin).1⟩
            have jc : Old (w.heap.size + 1) V := ⟨(Array.getElem?_eq_some_iff.1 S5.chr).1⟩
            have jt : Old (w.heap.size + 1 + 1) V := ⟨(Array.getElem?_eq_some_iff.1 S5.tok).1⟩
            have z0 : V.cell? ⟨w.heap.size + 1, 0, none⟩ = some (.int .i32 (rn s p)) := by rw [cell_of_row _ _ _ _ _ _ S5.chr]; rfl
            have z1 : V.cell? ⟨w.heap.size + 1, 1, none⟩ = some (.int .i64 0) := by rw [cell_of_row _ _ _ _ _ _ S5.chr]; rfl
            have z2 : V.cell? ⟨w.heap.size + 1, 2, none⟩ = some (.int .i64 (wd s p)) := by rw [cell_of_row _ _ _ _ _ _ S5.chr]; rfl
            have z3 : V.cell? ⟨w.heap.size + 1, 3, none⟩ = some (.bool (lo s p)) := by rw [cell_of_row _ _ _ _ _ _ S5.chr]; rfl
            have t0 : V.cell? ⟨w.heap.size + 1 + 1, 0, none⟩ = some tk := by rw [cell_of_row _ _ _ _ _ _ S5.tok]; rfl
            have t1 : V.cell? ⟨w.heap.size + 1 + 1, 1, none⟩ = some tt := by rw [cell_of_row _ _ _ _ _ _ S5.tok]; rfl
            have t2 : V.cell? ⟨w.heap.size + 1 + 1, 2, none⟩ = some (.int .i64 0) := by rw [cell_of_row _ _ _ _ _ _ S5.tok]; rfl
            have t3 : V.cell? ⟨w.heap.size + 1 + 1, 3, none⟩ = some (.int .i64 (col : Int)) := by rw [cell_of_row _ _ _ _ _ _ S5.tok]; rfl
            have fz1 : ∀ i, V.frozen? ⟨w.heap.size + 1, i, none⟩ = false := fun i => frozen_of_row _ _ _ _ _ S5.chr
            have fz2 : ∀ i, V.frozen? ⟨w.heap.size + 1 + 1, i, none⟩ = false := fun i => frozen_of_row _ _ _ _ _ S5.tok
            have fz3 : ∀ i, V.frozen? ⟨b, i, none⟩ = false := fun i => frozen_of_row _ _ _ _ _ S5.line
            have kz0 : HasCell V (w.heap.size + 1) 0 := ⟨by rw [z0]; rfl⟩
            have kt0 : HasCell V (w.heap.size + 1 + 1) 0 := ⟨by rw [t0]; rfl⟩
            have kz1 : HasCell V (w.heap.size + 1) 1 := ⟨by rw [z1]; rfl⟩
            have kt1 : HasCell V (w.heap.size + 1 + 1) 1 := ⟨by rw [t1]; rfl⟩
            have kz2 : HasCell V (w.heap.size + 1) 2 := ⟨by rw [z2]; rfl⟩
            have kt2 : HasCell V (w.heap.size + 1 + 1) 2 := ⟨by rw [t2]; rfl⟩
            have kz3 : HasCell V (w.heap.size + 1) 3 := ⟨by rw [z3]; rfl⟩
            have kt3 : HasCell V (w.heap.size + 1 + 1) 3 := ⟨by rw [t3]; rfl⟩
            have n3 : V.cell? ⟨w.heap.size, 3, none⟩ = some (.int .i64 3) := by rw [cell_of_row _ _ _ _ _ _ S5.kin]; rfl
            have n4 : V.cell? ⟨w.heap.size, 4, none⟩ = some (.int .i64 2) := by rw [cell_of_row _ _ _ _ _ _ S5.kin]; rfl
            have n5 : V.cell? ⟨w.heap.size, 5, none⟩ = some (.int .i64 5) := by rw [cell_of_row _ _ _ _ _ _ S5.kin]; rfl
            have HS5 := Lib.hid S5
            clear S5
            go_wp2_with fail
            refine wp_region_grows (by kernel_rfl) (by kernel_rfl) ?_
            repeat (go_big_quiet_step ((go_at_call 25; exact grows_of (hN _))))
            refine wpQuiet_nil ?_
            rintro _ ⟨g8, rfl⟩
            go_wp2_with fail
            go_at_call 23
            refine (ht _ (HS5.out.grow HH.out.2.2.1 g8.h).line).mono ?_
            rintro e V2 ⟨rfl, c4, hL4⟩
            have S7 := (HS5.out.grow HH.out.2.2.1 g8.h).move HH.out.2.2.1 (c4.mono (fun _ _ e => .inl e)) hL4 (c4.heap_at (HS5.out.grow HH.out.2.2.1 g8.h).chr (by have := HH.out.2.2.1; omega)) (c4.heap_at (HS5.out.grow HH.out.2.2.1 g8.h).tok (by have := HH.out.2.2.1; omega))
            clear c4 hL4 ht
            clear jb c0 c1 c2 c3 jk jc jt z0 z1 z2 z3 t0 t1 t2 t3 fz1 fz2 fz3 kz0 kz1 kz2 kz3 kt0 kt1 kt2 kt3 n3 n4 n5
            obtain ⟨jb, c0, c1, c2, c3⟩ := S7.line.cells
            have jk : Old w.heap.size V2 := ⟨(Array.getElem?_eq_some_iff.1 S7.kin).1⟩
            have jc : Old (w.heap.size + 1) V2 := ⟨(Array.getElem?_eq_some_iff.1 S7.chr).1⟩
            have jt : Old (w.heap.size + 1 + 1) V2 := ⟨(Array.getElem?_eq_some_iff.1 S7.tok).1⟩
            have z0 : V2.cell? ⟨w.heap.size + 1, 0, none⟩ = some (.int .i32 (rn s p)) := by rw [cell_of_row _ _ _ _ _ _ S7.chr]; rfl
            have z1 : V2.cell? ⟨w.heap.size + 1, 1, none⟩ = some (.int .i64 0) := by rw [cell_of_row _ _ _ _ _ _ S7.chr]; rfl
            have z2 : V2.cell? ⟨w.heap.size + 1, 2, none⟩ = some (.int .i64 (wd s p)) := by rw [cell_of_row _ _ _ _ _ _ S7.chr]; rfl
            have z3 : V2.cell? ⟨w.heap.size + 1, 3, none⟩ = some (.bool (lo s p)) := by rw [cell_of_row _ _ _ _ _ _ S7.chr]; rfl
            have t0 : V2.cell? ⟨w.heap.size + 1 + 1, 0, none⟩ = some tk := by rw [cell_of_row _ _ _ _ _ _ S7.tok]; rfl
            have t1 : V2.cell? ⟨w.heap.size + 1 + 1, 1, none⟩ = some tt := by rw [cell_of_row _ _ _ _ _ _ S7.tok]; rfl
            have t2 : V2.cell? ⟨w.heap.size + 1 + 1, 2, none⟩ = some (.int .i64 0) := by rw [cell_of_row _ _ _ _ _ _ S7.tok]; rfl
            have t3 : V2.cell? ⟨w.heap.size + 1 + 1, 3, none⟩ = some (.int .i64 (col : Int)) := by rw [cell_of_row _ _ _ _ _ _ S7.tok]; rfl
            have fz1 : ∀ i, V2.frozen? ⟨w.heap.size + 1, i, none⟩ = false := fun i => frozen_of_row _ _ _ _ _ S7.chr
            have fz2 : ∀ i, V2.frozen? ⟨w.heap.size + 1 + 1, i, none⟩ = false := fun i => frozen_of_row _ _ _ _ _ S7.tok
            have fz3 : ∀ i, V2.frozen? ⟨b, i, none⟩ = false := fun i => frozen_of_row _ _ _ _ _ S7.line
            have kz0 : HasCell V2 (w.heap.size + 1) 0 := ⟨by rw [z0]; rfl⟩
            have kt0 : HasCell V2 (w.heap.size + 1 + 1) 0 := ⟨by rw [t0]; rfl⟩
            have kz1 : HasCell V2 (w.heap.size + 1) 1 := ⟨by rw [z1]; rfl⟩
            have kt1 : HasCell V2 (w.heap.size + 1 + 1) 1 := ⟨by rw [t1]; rfl⟩
            have kz2 : HasCell V2 (w.heap.size + 1) 2 := ⟨by rw [z2]; rfl⟩
            have kt2 : HasCell V2 (w.heap.size + 1 + 1) 2 := ⟨by rw [t2]; rfl⟩
            have kz3 : HasCell V2 (w.heap.size + 1) 3 := ⟨by rw [z3]; rfl⟩
            have kt3 : HasCell V2 (w.heap.size + 1 + 1) 3 := ⟨by rw [t3]; rfl⟩
            have n3 : V2.cell? ⟨w.heap.size, 3, none⟩ = some (.int .i64 3) := by rw [cell_of_row _ _ _ _ _ _ S7.kin]; rfl
            have n4 : V2.cell? ⟨w.heap.size, 4, none⟩ = some (.int .i64 2) := by rw [cell_of_row _ _ _ _ _ _ S7.kin]; rfl
            have n5 : V2.cell? ⟨w.heap.size, 5, none⟩ = some (.int .i64 5) := by rw [cell_of_row _ _ _ _ _ _ S7.kin]; rfl
            have HS7 := Lib.hid S7
            clear S7
            go_wp2_with fail
            refine wp_label ?_
            go_wp2_with fail
            obtain ⟨U, hU⟩ : ∃ U, ((V2.setCell ⟨w.heap.size + 1 + 1, 1, none⟩ (.string (s.extract p (p + l)))).setCell ⟨w.heap.size + 1 + 1, 0, none⟩ (.int .i64 3)) = U := ⟨_, rfl⟩
            have S6 := (HS7.out.setTok1 HH.out.2.2.1 (.string (s.extract p (p + l)))).setTok0 HH.out.2.2.1 (.int .i64 3)
            rw [hU] at S6
            rw [hU]
            clear hU
            clear jb c0 c1 c2 c3 jk jc jt z0 z1 z2 z3 t0 t1 t2 t3 fz1 fz2 fz3 kz0 kz1 kz2 kz3 kt0 kt1 kt2 kt3 n3 n4 n5
            obtain ⟨jb, c0, c1, c2, c3⟩ := S6.line.cells
            have jk : Old w.heap.size U := ⟨(Array.getElem?_eq_some_iff.1 S6.kin).1⟩
            have jc : Old (w.heap.size + 1) U := ⟨(Array.getElem?_eq_some_iff.1 S6.chr).1⟩
            have jt : Old (w.heap.size + 1 + 1) U := ⟨(Array.getElem?_eq_some_iff.1 S6.tok).1⟩
            have z0 : U.cell? ⟨w.heap.size + 1, 0, none⟩ = some (.int .i32 (rn s p)) := by rw [cell_of_row _ _ _ _ _ _ S6.chr]; rfl
            have z1 : U.cell? ⟨w.heap.size + 1, 1, none⟩ = some (.int .i64 0) := by rw [cell_of_row _ _ _ _ _ _ S6.chr]; rfl
            have z2 : U.cell? ⟨w.heap.size + 1, 2, none⟩ = some (.int .i64 (wd s p)) := by rw [cell_of_row _ _ _ _ _ _ S6.chr]; rfl
            have z3 : U.cell? ⟨w.heap.size + 1, 3, none⟩ = some (.bool (lo s p)) := by rw [cell_of_row _ _ _ _ _ _ S6.chr]; rfl
            have t0 : U.cell? ⟨w.heap.size + 1 + 1, 0, none⟩ = some (.int .i64 3) := by rw [cell_of_row _ _ _ _ _ _ S6.tok]; rfl
            have t1 : U.cell? ⟨w.heap.size + 1 + 1, 1, none⟩ = some (.string (s.extract p (p + l))) := by rw [cell_of_row _ _ _ _ _ _ S6.tok]; rfl
            have t2 : U.cell? ⟨w.heap.size + 1 + 1, 2, none⟩ = some (.int .i64 0) := by rw [cell_of_row _ _ _ _ _ _ S6.tok]; rfl
            have t3 : U.cell? ⟨w.heap.size + 1 + 1, 3, none⟩ = some (.int .i64 (col : Int)) := by rw [cell_of_row _ _ _ _ _ _ S6.tok]; rfl
            have fz1 : ∀ i, U.frozen? ⟨w.heap.size + 1, i, none⟩ = false := fun i => frozen_of_row _ _ _ _ _ S6.chr
            have fz2 : ∀ i, U.frozen? ⟨w.heap.size + 1 + 1, i, none⟩ = false := fun i => frozen_of_row _ _ _ _ _ S6.tok
            have fz3 : ∀ i, U.frozen? ⟨b, i, none⟩ = false := fun i => frozen_of_row _ _ _ _ _ S6.line
            have kz0 : HasCell U (w.heap.size + 1) 0 := ⟨by rw [z0]; rfl⟩
            have kt0 : HasCell U (w.heap.size + 1 + 1) 0 := ⟨by rw [t0]; rfl⟩
            have kz1 : HasCell U (w.heap.size + 1) 1 := ⟨by rw [z1]; rfl⟩
            have kt1 : HasCell U (w.heap.size + 1 + 1) 1 := ⟨by rw [t1]; rfl⟩
            have kz2 : HasCell U (w.heap.size + 1) 2 := ⟨by rw [z2]; rfl⟩
            have kt2 : HasCell U (w.heap.size + 1 + 1) 2 := ⟨by rw [t2]; rfl⟩
            have kz3 : HasCell U (w.heap.size + 1) 3 := ⟨by rw [z3]; rfl⟩
            have kt3 : HasCell U (w.heap.size + 1 + 1) 3 := ⟨by rw [t3]; rfl⟩
            have n3 : U.cell? ⟨w.heap.size, 3, none⟩ = some (.int .i64 3) := by rw [cell_of_row _ _ _ _ _ _ S6.kin]; rfl
            have n4 : U.cell? ⟨w.heap.size, 4, none⟩ = some (.int .i64 2) := by rw [cell_of_row _ _ _ _ _ _ S6.kin]; rfl
            have n5 : U.cell? ⟨w.heap.size, 5, none⟩ = some (.int .i64 5) := by rw [cell_of_row _ _ _ _ _ _ S6.kin]; rfl
            have HS6 := Lib.hid S6
            clear S6
            obtain ⟨i0, hi, hz0, hz1, hz2⟩ := info_parts infoTok
            have hown := HS6.out.own
            have hlen := HR.out.2.2.2.2.2.2.1
            have hsz := HH.out.2.1
            have hll := HR.out.2.2.2.1
            have hnp := Ear.own_ne HS6.out.own HS6.out.line (by decide)
            have hub := Nat.le_of_lt (Array.getElem?_eq_some_iff.1 HS6.out.tok).1
            go_region_law (refine step_append_lies _ rfl (.tmp 118) (.tmp 120) 29 rfl (w.heap.size + 3) 33 i0 _ 4 40 Tryd.underlying29 hi hz0 hz1 hz2 rfl (by decide) v out.length (fl 0 out) rfl (World.ownsRow.alloc (World.ownsRow.drew hown) _) ⟨_, 0, none⟩ 1 1 [.int .i64 3, .string (s.extract p (p + l)), .int .i64 0, .int .i64 (col : Int)] rfl rfl (World.news_of_block (cs := #[.int .i64 3, .string (s.extract p (p + l)), .int .i64 0, .int .i64 (col : Int)]) (heap_alloc_new _ _)) (by intro u hu; simp at hu; rcases hu with rfl | rfl | rfl | rfl <;> rfl) (by omega) (by simp only [maxLen]; omega) (by omega) (by have := (Array.getElem?_eq_some_iff.1 HS6.out.tok).1; simp; omega) _ rfl ?_; intro g cap w1 hown1 hgrow hat hlt; have y1 : w1.cell? ⟨b, 3, none⟩ = some v := (hgrow.cell_far ⟨b, 3, none⟩ (Old.lt (b := b)) (fun e => hnp b e.symm rfl)).trans (by simp [go_sem, c3]); have y2 : w1.frozen? ⟨b, 3, none⟩ = false := (hgrow.frozen_far ⟨b, 3, none⟩ (Old.lt (b := b)) (fun e => hnp b e.symm rfl)).trans (by simp [go_sem, fz3]))
            all_goals
              have S9 := HS6.out.push HH.out.2.2.1 (by repeat (with_reducible first | exact Chg.refl _ _ | assumption | refine chg_m ?_ _ | refine chg_g ?_ _ | refine chg_alloc ?_ _ | refine chg_drew ?_ | refine chg_drewN ?_ _ | refine chg_set ?_ _ _ _)) hgrow (⟨3, sub s p l, col⟩ : Wd) _ (by simp only [tv]; rw [HX.out]; rfl) hown1
              clear hgrow hown1 hat hlt y1 y2
              go_wp2_with fail
              refine wp_goto ?_
              show Exit.chain _ _ _ (n + 1) (.goto 0) _ _
              simp only [Exit.chain]
              have hm2 := HR.out.2
              refine goto_of (IH.out (s.size - (p + l)) (by have := HW.out.2; omega) (p + l) (col + k) (n) _ _ _ _ _ _ _ _ _ _ _ _ _ _ _ _ _ _ _ _ _ _ _ _ _ _ _ _ _ _ _ _ _ _ _ _ _ _ _ _ _ _ _ _ _ _ _ _ _ _ _ _ _ _ _ _ _ _ _ _ _ _ _ _ _ _ _ _ _ _ _ _ _ _ _ _ _ _ _ _ _ _ _ _ _ _ _ _ _ _ _ _ _ _ _ _ _ _ _ _ _ _ _ _ _ _ _ _ _ _ _ _ _ _ _ _ _ _ _ _ _ _ _ _ _ _ _ _ _ _ _ _ _ _ _ _ _ _ _ _ _ _ _ _ _ _ _ _ _ _ rfl (by have := HW.out.2; omega) (by have := HW.out.2; omega) (by have := HW.out.2; omega) (by have := HW.out.2; simp; omega) HW.out.1 S9)
        · rw [if_neg h1, if_neg h35, if_neg h34, if_neg h5, if_neg h4, if_neg h3] at hR
          have y1 : (cls (rn s p) == 1) = false := beq_eq_false_iff_ne.2 h1
          have y5 : (cls (rn s p) == 5) = false := beq_eq_false_iff_ne.2 h5
          have y4 : (cls (rn s p) == 4) = false := beq_eq_false_iff_ne.2 h4
          have y3 : (cls (rn s p) == 3) = false := beq_eq_false_iff_ne.2 h3
          have y35 : (rn s p == 35) = false := beq_eq_false_iff_ne.2 h35
          have y34 : (rn s p == 34) = false := beq_eq_false_iff_ne.2 h34
          have HW := Lib.hid hR
          clear hR h1 h35 h34 h5 h4 h3
          go_wp2_with fail
          rw [chain_ret]
          refine bodyPost_ret (v := .int .i64 20) (by simp [results, Tryd.results12, go_sem]) rfl ?_
          unfold WordsPost
          rw [← HW.out]
          exact ⟨rfl, HS4.out.chg, p, v, HS4.out.line⟩
      · obtain rfl : p = s.size := by omega
        rw [ws_end _ _ hlt] at hR
        have HK := Lib.hid (And.intro hR S)
        clear hm hn hp hcol hlen hR S hlt ih
        go_wp2_with fail
        refine wp_region_grows (by kernel_rfl) (by kernel_rfl) ?_
        repeat (go_big_quiet_step ((fail)))
        refine wpQuiet_nil ?_
        rintro _ ⟨g1, rfl⟩
        go_wp2_with fail
        rw [chain_ret]
        refine bodyPost_ret (v := .int .i64 0) (by simp [results, Tryd.results12, go_sem]) rfl ?_
        unfold WordsPost
        rw [← HK.out.1]
        have S := HK.out.2.grow HH.out.2.2.1 g1.h
        exact ⟨rfl, S.chg, _, _, _, S.line, own_base S.own (by omega)⟩
  go_wp2_with fail
  refine wp_label ?_
  rename_i hrest
  refine hrest _ _ ?_
  refine seq_of (key s.size 0 1 _ [] _ (.slice none 0 0) (.int .i32 0) (.int .i64 0) (.bool false) (.int .i64 0) (.string ⟨#[]⟩) (.int .i64 0) _ _ _ _ _ _ _ _ _ _ _ _ _ _ _ _ _ _ _ _ _ _ _ _ _ _ _ _ _ _ _ _ _ _ _ _ _ _ _ _ _ _ _ _ _ _ _ _ _ _ _ _ _ _ _ _ _ _ _ _ _ _ _ _ _ _ _ _ _ _ _ _ _ _ _ _ _ _ _ _ _ _ _ _ _ _ _ _ _ _ _ _ _ _ _ _ _ _ _ _ _ _ _ _ _ _ _ _ _ _ _ _ _ _ _ _ _ _ _ _ _ _ _ _ _ _ _ _ _ _ _ _ _ _ _ _ _ _ _ _ _ rfl (Nat.le_refl _) (Nat.zero_le _) (by omega) (by simp) HH.out.2.2.2 ?_) ((congrArg (findLabel · 0) HC.out).trans rfl)
  exact WSt.start HH.out.1
end Go.Proofs.YtkamjhhaghkdmaaDoor
