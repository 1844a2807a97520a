/- What a script makes of a bag: the plain law. -/
import Derived.Test.YteemkceceaabkaaJ
namespace Go.Proofs.Yteemkceceaabkaa

/-- Each datagram has an Id of its own, made once; as many as were made and not taken. -/
structure Inv (r : Int) (S : BagS × Nat × Nat) : Prop where
  last : S.1.last = S.2.1
  count : S.1.l.length + S.2.2 = S.2.1
  ids : ∀ x ∈ S.1.l, 1 ≤ x.id ∧ x.id ≤ S.1.last
  once : (S.1.l.map (·.id)).Nodup
  room : S.1.room = r
  fits : (S.1.l.length : Int) ≤ r
  small : ∀ x ∈ S.1.l, x.data.length ≤ 1024

theorem inv_zero (r : Int) (h : 0 ≤ r) : Inv r (⟨r, 0, []⟩, 0, 0) := ⟨rfl, rfl, by simp, by simp, rfl, h, by simp⟩

theorem inv_put {r : Int} {S : BagS × Nat × Nat} (h : Inv r S) (fr to : Int) (l : List UInt8) (hl : l.length ≤ 1024) :
    Inv r ((putS S.1 fr to l).1, if (putS S.1 fr to l).2.2 = 0 then S.2.1 + 1 else S.2.1, S.2.2) := by
  obtain ⟨B, m, t⟩ := S
  obtain ⟨h1, h2, h3, h4, h5, h6, h7⟩ := h
  simp only at h1 h2 h3 h4 h5 h6 h7
  unfold putS
  split
  · exact ⟨h1, h2, h3, h4, h5, h6, h7⟩
  · rename_i hne
    simp only at hne
    refine ⟨by simp; omega, by simp; omega, ?_, ?_, by simp; omega, by simp; omega, ?_⟩
    · intro x hx
      simp at hx
      rcases hx with hx | rfl
      · have := h3 x hx; simp; omega
      · simp; omega
    · simp only [List.map_append, List.map_cons, List.map_nil]
      rw [List.nodup_append]
      refine ⟨h4, by simp, ?_⟩
      intro a ha b hb
      simp at ha hb
      obtain ⟨x, hx, rfl⟩ := ha
      have := (h3 x hx).2
      subst hb
      omega
    · intro x hx
      simp at hx
      rcases hx with hx | rfl
      · exact h7 x hx
      · exact hl
theorem map_insert {α β : Type} (f : α → β) (l : List α) (j : Nat) (x : α) : (l.insertIdx j x).map f = (l.map f).insertIdx j (f x) := by
  induction j generalizing l with
  | zero => simp
  | succ j ih => cases l with
    | nil => simp
    | cons y l => simp [ih]
theorem map_erase {α β : Type} (f : α → β) (l : List α) (i : Nat) : (l.eraseIdx i).map f = (l.map f).eraseIdx i := by
  induction i generalizing l with
  | zero => cases l <;> simp
  | succ i ih => cases l with
    | nil => simp
    | cons y l => simp [ih]

theorem erase_insert_perm {α : Type} (l : List α) (i j : Nat) (x : α) (hx : l[i]? = some x) (hj : j < l.length) : ((l.eraseIdx i).insertIdx j x).Perm l := by
  have hi := (List.getElem?_eq_some_iff.1 hx).1
  have h1 : ((l.eraseIdx i).insertIdx j x).Perm (x :: l.eraseIdx i) := List.perm_insertIdx _ _ (by rw [List.length_eraseIdx, if_pos hi]; omega)
  refine h1.trans ?_
  have e : l = l.take i ++ x :: l.drop (i + 1) := by
    have := (List.getElem?_eq_some_iff.1 hx).2
    rw [← this, ← List.drop_eq_getElem_cons hi, List.take_append_drop]
  have e2 : l.eraseIdx i = l.take i ++ l.drop (i + 1) := List.eraseIdx_eq_take_drop_succ _ _
  rw [e2]
  refine List.Perm.trans ?_ (List.Perm.of_eq e.symm)
  exact List.perm_middle.symm

theorem inv_step {r : Int} {S : BagS × Nat × Nat} (h : Inv r S) (o : OpS) : Inv r (stepS S o) := by
  unfold stepS
  split
  · unfold sendS
    split
    · simpa using h
    · exact inv_put h _ _ _ (by omega)
  split
  · split
    · exact h
    · rename_i hk hr
      obtain ⟨B, m, t⟩ := S
      obtain ⟨h1, h2, h3, h4, h5, h6, h7⟩ := h
      simp only at h1 h2 h3 h4 h5 h6 h7 hr
      have hi : o.i.toNat < B.l.length := by omega
      have hle : (B.l.eraseIdx o.i.toNat).length = B.l.length - 1 := by rw [List.length_eraseIdx, if_pos hi]
      refine ⟨h1, by simp only [hle]; omega, fun x hx => h3 x (List.mem_of_mem_eraseIdx hx), ?_, h5, by simp only [hle]; omega, fun x hx => h7 x (List.mem_of_mem_eraseIdx hx)⟩
      simp only [map_erase]
      exact h4.sublist (List.eraseIdx_sublist _ _)
  split
  · unfold doubleS
    split
    · simpa using h
    · split
      · simpa using h
      · rename_i x hx
        exact inv_put h _ _ _ (h.small x (List.mem_of_getElem? hx))
  split
  · unfold moveS
    split
    · exact h
    · split
      · exact h
      · rename_i hne _ x hx
        have hj : o.j.toNat < S.1.l.length := by
          simp only [askedF] at hne
          split at hne
          · simp at hne
          · split at hne
            · simp at hne
            · omega
        have hp := erase_insert_perm S.1.l _ _ x hx hj
        obtain ⟨h1, h2, h3, h4, h5, h6, h7⟩ := h
        refine ⟨h1, by simp only [hp.length_eq]; exact h2, fun y hy => h3 y (hp.mem_iff.1 hy), (hp.map _).nodup_iff.2 h4, h5, by simp only [hp.length_eq]; exact h6, fun y hy => h7 y (hp.mem_iff.1 hy)⟩
  split
  · unfold spoilS
    split
    · exact h
    · split
      · exact h
      · split
        · exact h
        · rename_i x hx _
          obtain ⟨h1, h2, h3, h4, h5, h6, h7⟩ := h
          have hxm := List.mem_of_getElem? hx
          refine ⟨h1, by simpa using h2, ?_, ?_, h5, by simpa using h6, ?_⟩
          · intro y hy
            rcases List.mem_or_eq_of_mem_set hy with hy | rfl
            · exact h3 y hy
            · exact h3 x hxm
          · show ((S.1.l.set o.i.toNat _).map (·.id)).Nodup
            rw [List.map_set]
            have : (S.1.l.map (·.id)).set o.i.toNat x.id = S.1.l.map (·.id) := by
              apply List.ext_getElem?
              intro k
              rw [List.getElem?_set]
              split
              · subst_vars
                split
                · simp [hx]
                · rename_i hh
                  rw [List.getElem?_eq_none (by omega)]
              · rfl
            rw [this]
            exact h4
          · intro y hy
            rcases List.mem_or_eq_of_mem_set hy with hy | rfl
            · exact h7 y hy
            · simpa using h7 x hxm
  · exact h
theorem inv_fold {r : Int} {S : BagS × Nat × Nat} (h : Inv r S) (ops : List OpS) : Inv r (ops.foldl stepS S) := by
  induction ops generalizing S with
  | nil => exact h
  | cons o l ih => exact ih (inv_step h o)
theorem inv_run {r : Int} (h : 0 ≤ r) (ops : List OpS) : Inv r (runS ⟨r, 0, []⟩ ops) := inv_fold (inv_zero r h) ops
end Go.Proofs.Yteemkceceaabkaa
