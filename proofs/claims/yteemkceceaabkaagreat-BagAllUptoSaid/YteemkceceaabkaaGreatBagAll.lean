/- BagAll: behind every step both bags are looked at, lists are kept, marked and grown, what was handed in is written over: the law returns true for all rooms and every script, and nothing that was there is changed, where what it reads is of bulk at most 1048576. -/
import Derived.Test.YteemkceceaabkaaGreatV2
import Derived.Test.YteemkceceaabkaaGreatBq
import Derived.JoinedCond
namespace Go.Proofs.YteemkceceaabkaaGreat.BagAll
open Go.ChangeShapes Go.WideShapes Go.ChangeAt Go.RowKit Go.Ear Go.Deep
set_option maxHeartbeats 1000000
set_option maxRecDepth 100000

/-- Two whole numbers as an argument. -/
theorem open_two {H : Type} {enc : TypeId × Value → H} {W : World} {base : Nat} {v : Value} {d : DataW H} {p : List MemPlace} (hv : Value.okWide Tryz.prog W .any base 22 v) (h : DataW.Trod enc Tryz.prog W 0 (fun _ => true) true 22 v d p) :
    ∃ a b : Int, v = .agg #[i64 a, i64 b] := by
  simp only [Value.okWide, Tryz.underlying22] at hv
  obtain ⟨cs, rfl, hsz, _⟩ := hv
  have hc : Tryz.prog.cellsOf 22 = 2 := by kernel_rfl
  have e3 : Tryz.prog.cellsOf 3 = 1 := by kernel_rfl
  rw [hc] at hsz
  obtain ⟨fuel, hf⟩ := h
  obtain ⟨xs, m, _, _, hl, hxl, hi⟩ := DataW.trod_array Tryz.underlying22 hf
  obtain ⟨l⟩ := cs
  match l, hsz with
  | [c0, c1], _ =>
    have h0 := hi 0 (by omega)
    have h1 := hi 1 (by omega)
    simp [Value.cells, e3] at h0 h1
    match xs, hxl with
    | [y0, y1], _ =>
      obtain ⟨a, ea, _, _⟩ := DataW.trod_int Tryz.underlying3 (h0.trans rfl)
      obtain ⟨b, eb, _, _⟩ := DataW.trod_int Tryz.underlying3 (h1.trans rfl)
      simp at ea eb
      subst ea eb
      exact ⟨a, b, rfl⟩

theorem scr_grow {w w' : World} {A : Option Addr} {ops : List OpS} (h : Scr w A ops) (hc : Chg Noth w w') : Scr w' A ops := by
  refine ⟨fun k o ho => ?_, h.range⟩
  obtain ⟨b, off, D, c, rfl, hb, a0, a1, a2, a3, a4, a5, hd⟩ := h.cells k o ho
  have hcell : ∀ q, w'.cell? ⟨b, q, none⟩ = w.cell? ⟨b, q, none⟩ := fun q => hc.cell (p := ⟨b, q, none⟩) hb (fun e => e)
  exact ⟨b, off, D, c, rfl, Nat.lt_of_lt_of_le hb hc.size, (hcell _).trans a0, (hcell _).trans a1, (hcell _).trans a2, (hcell _).trans a3, (hcell _).trans a4, (hcell _).trans a5, hd.grow hc⟩


theorem walk (r0 r1 : Int) (A : Option Addr) (cap : Nat) (ops : List OpS) (w : World) (hS : Scr w A ops) :
    Calls Tryz.prog 4 #[.agg #[i64 r0, i64 r1], .slice A ops.length cap] w (Gr (.bool true) w) := by
  have hp := fun W (hW : Chg Noth w W) => play_all r0 r1 A ops.length cap ops rfl W (scr_grow hS hW)
  generalize ops.length = n at hp ⊢
  go_enter Tryz.func4, Tryz.ntmps4
  go_wp2_with (go_at_call 6; refine (hp _ (by repeat (with_reducible first | exact Chg.refl _ _ | refine chg_m ?_ _ | refine chg_g ?_ _ | refine chg_alloc ?_ _ | refine chg_drew ?_ | refine chg_drewN ?_ _ | refine chg_set ?_ _ _ _))).mono ?_; rintro e w' ⟨rfl, g, rfl⟩)
  go_ret
  exact gr_mk rfl (by repeat (with_reducible first | exact Chg.refl _ _ | refine chg_m ?_ _ | refine chg_g ?_ _ | refine chg_alloc ?_ _ | refine chg_drew ?_ | refine chg_drewN ?_ _ | refine chg_set ?_ _ _ _))

theorem contract (H : Type) (enc : TypeId × Value → H) (W : World) (base : Nat) (args : Array Value) (ds gs : List (DataW H)) (before : List MemPlace)
    (hval : ∀ (j : Nat) t v, Tryz.f4.params[j]? = some t → args[j]? = some v → Value.okWide Tryz.prog W .any base t v)
    (hW : DataW.Whole enc Tryz.prog Tryz.f4.params.toList Rows.bagAllSpec.vars false W args.toList ds gs before) :
    Calls Tryz.prog 4 args W fun e W' => ∃ v, e = .returned v ∧ Rows.bagAllSpec.post enc Tryz.prog Tryz.f4 false true false false W args v W' := by
  have hW' := hW
  obtain ⟨p, q, hA0, hV, rfl, _, _⟩ := hW
  have hA : DataW.TrodAll enc Tryz.prog W 0 (fun _ => true) true Tryz.f4.params.toList args.toList ds p := hA0
  rw [Tryz.params4] at hA hval
  obtain ⟨v0, vs0, d0, ds0, p0, q0, hargs, rfl, rfl, h0, r0⟩ := trodAll_cons hA
  obtain ⟨v1, vs1, d1, ds1, p1, q1, rfl, rfl, rfl, h1, r1⟩ := trodAll_cons r0
  obtain ⟨rfl, rfl, rfl⟩ := trodAll_nil r1
  obtain rfl : args = #[v0, v1] := by cases args; simp_all
  obtain ⟨rfl, rfl⟩ := trodVars_none hV
  obtain ⟨a0, a1, rfl⟩ := open_two (hval 0 22 v0 rfl rfl) h0
  obtain ⟨A0, c0, l0, rfl, hS0⟩ := open_ops (hval 1 23 v1 rfl rfl) h1
  refine (walk a0 a1 A0 c0 l0 W hS0).mono fun e W' hg => ?_
  exact law_post laidOut (by kernel_rfl) (by kernel_rfl : Tryz.f4.resultTypes = #[4]) Tryz.underlying4 rfl hW' rfl rfl rfl hg

theorem lifted (os : Os) (started : os.Started) (H : Type) (enc : TypeId × Value → H) (F : Stop.Interp) :
    ReturnsInHanded {} Tryz.checked os 4 .any ((Rows.OpenSpec.upto Rows.bagAllSpec).pre6 enc Tryz.prog Tryz.f4 Rows.bagAllUptoRow.domain false) (((Rows.OpenSpec.upto Rows.bagAllSpec).at F).post enc Tryz.prog Tryz.f4 false true false false) := by
  refine returnsInHanded_of_cond (C := Tryz.checked) (s := Rows.OpenSpec.upto Rows.bagAllSpec) (k := Rows.uptoSmall) rfl own started (by kernel_rfl) Tryz.func4
    (OpenSpec.witness (enc := enc) (C := Tryz.checked) (s := Rows.OpenSpec.upto Rows.bagAllSpec) (k := Rows.uptoSmall) rfl false ⟨#[], #[.agg #[.int .i64 0, .int .i64 0], .slice none 0 0], []⟩ 8 (by kernel_rfl) (by kernel_rfl) (by kernel_rfl)
      (x := ([.agg [.lit (.int .i64 0), .lit (.int .i64 0)], .nil], [], [])) (by kernel_rfl) rfl (by kernel_rfl)) ?_
  intro W base args ds gs before hval hW _ hk _
  exact contract H enc W base args ds gs before hval hW

theorem bagAll_holds : Rows.BagAllUptoSaid :=
  OpenClaim.holds_of_cond 4 Tryz.f4 rfl rfl rfl rfl rfl rfl rfl ⟨rfl, rfl, rfl, rfl, rfl⟩ rfl rfl rfl rfl rfl (by kernel_rfl) Tryz.func4 (by kernel_rfl)
    (of_decide_eq_true (by kernel_rfl)) (by unfold Func.isWrapper; first | (rw [if_pos (by decide +kernel)]; kernel_rfl) | (rw [if_neg (by decide +kernel)]; exact ⟨rfl, rfl⟩))
    (fun os started H enc _ F => lifted os started H enc F)
end Go.Proofs.YteemkceceaabkaaGreat.BagAll
