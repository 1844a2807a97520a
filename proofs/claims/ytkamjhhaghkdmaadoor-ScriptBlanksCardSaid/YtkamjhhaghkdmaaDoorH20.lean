/- Words of a line, plain. -/
import Derived.Test.YtkamjhhaghkdmaaDoorH19
namespace Go.Ear
set_option linter.unusedSimpArgs false
set_option linter.unusedVariables false
/-- A word: its kind, its bytes, its column. -/
structure Wd where
  kind : Int
  text : List UInt8
  col : Nat
/-- The bytes from i on, so many. -/
def sub (s : ByteArray) (i n : Nat) : List UInt8 := (s.data.toList.drop i).take n
/-- How many characters a text has. -/
def cnt (s : ByteArray) : Nat := (runes s 0).length
/-- The run of letters and digits from i on: where it ends, how many characters it has. -/
def runF (s : ByteArray) : Nat → Nat → Nat → Nat × Nat
  | 0, p, n => (p, n)
  | f + 1, p, n => if p < s.size then (if cls (rn s p) = 3 ∨ cls (rn s p) = 4 then runF s f (p + wd s p) (n + 1) else (p, n)) else (p, n)
def run (s : ByteArray) (p : Nat) : Nat × Nat := runF s (s.size - p) p 0
/-- A hexadecimal digit's value, -1: none. -/
def hexV (c : Nat) : Int := if 48 ≤ c ∧ c ≤ 57 then (c : Int) - 48 else if 97 ≤ c ∧ c ≤ 102 then (c : Int) - 87 else if 65 ≤ c ∧ c ≤ 70 then (c : Int) - 55 else -1
/-- Byte i, 0 behind the end. -/
def atB (s : ByteArray) (i : Nat) : Nat := if i < s.size then by' s i else 0
/-- The hexadecimal digits from i on, at most so many: the value, where they end. -/
def hexF (s : ByteArray) : Nat → Nat → Nat → Nat × Nat
  | 0, i, v => (v, i)
  | f + 1, i, v => if 0 ≤ hexV (atB s i) then hexF s f (i + 1) (v * 16 + (hexV (atB s i)).toNat) else (v, i)
/-- The escape at byte i (a backslash): what it says, how many bytes it has. -/
def esc (s : ByteArray) (i : Nat) : Option (List UInt8 × Nat) :=
  let c := atB s (i + 1)
  if c = 34 ∨ c = 92 then some ([UInt8.ofNat c], 2)
  else if c = 110 then some ([10], 2)
  else if c = 116 then some ([9], 2)
  else if c = 114 then some ([13], 2)
  else if c = 120 then (if 0 ≤ hexV (atB s (i + 2)) ∧ 0 ≤ hexV (atB s (i + 3)) then some ([UInt8.ofNat ((hexV (atB s (i + 2))).toNat * 16 + (hexV (atB s (i + 3))).toNat)], 4) else none)
  else if c = 117 then (if atB s (i + 2) = 123 then
      let h := hexF s 6 (i + 3) 0
      if i + 3 < h.2 ∧ atB s h.2 = 125 ∧ h.1 ≤ 1114111 ∧ ¬ (55296 ≤ h.1 ∧ h.1 ≤ 57343) then some (Lib.encodeRune h.1, h.2 + 1 - i) else none
    else none)
  else none
/-- May a character stand in a quoted text as it is? -/
def stands (s : ByteArray) (p : Nat) : Bool := !lo s p && decide (32 ≤ rn s p) && decide (rn s p ≠ 127)
/-- The quoted text's rest from p on: where it ends (behind the quote) and the column there; or an error and its column. -/
def quoF (s : ByteArray) : Nat → Nat → Nat → Except (Int × Nat) (Nat × Nat)
  | 0, _, col => .error (11, col)
  | f + 1, p, col =>
    if p < s.size then
      if rn s p = 34 then .ok (p + 1, col + 1)
      else if rn s p = 92 then (match esc s p with
        | none => .error (12, col)
        | some (_, n) => quoF s f (p + n) (col + n))
      else if stands s p = true then quoF s f (p + wd s p) (col + 1)
      else .error (10, col)
    else .error (11, col)
/-- What a quoted text says from p on; an error and its place. -/
def unqF (s : ByteArray) : Nat → Nat → List UInt8 → Except (Int × Nat) (List UInt8)
  | 0, _, _ => .error (11, s.size)
  | f + 1, p, out =>
    if p < s.size then
      if rn s p = 34 then (if p + 1 < s.size then .error (11, p + 1) else .ok out)
      else if rn s p = 92 then (match esc s p with
        | none => .error (12, p)
        | some (b, n) => unqF s f (p + n) (out ++ b))
      else if stands s p = true then unqF s f (p + wd s p) (out ++ sub s p (wd s p))
      else .error (10, p)
    else .error (11, s.size)
/-- Unquote. -/
def unq (s : ByteArray) : Except (Int × Nat) (List UInt8) :=
  if 65536 < s.size then .error (2, 0)
  else if atB s 0 = 34 then unqF s s.size 1 []
  else .error (11, 0)
/-- A number's value, below 0: none. -/
def numW (l : List UInt8) : Int := if canon l then (match dval l 0 with
  | some x => if x ≤ 1099511627776 then (x : Int) else -1
  | none => -1) else -1
/-- The words of a line from p on; or an error and its column. -/
def wordsF (s : ByteArray) : Nat → Nat → Nat → List Wd → Except (Int × Nat) (List Wd)
  | 0, _, _, out => .ok out
  | f + 1, p, col, out =>
    if p < s.size then
      let c := cls (rn s p)
      if c = 1 then wordsF s f (p + wd s p) (col + 1) out
      else if rn s p = 35 then .ok out
      else if rn s p = 34 then (match quoF s (s.size - (p + 1)) (p + 1) (col + 1) with
        | .error e => .error e
        | .ok (q, col') => wordsF s f q col' (out ++ [⟨4, sub s p (q - p), col⟩]))
      else if c = 5 then wordsF s f (p + 1) (col + 1) (out ++ [⟨5, sub s p 1, col⟩])
      else if c = 4 then (if 128 < (run s p).2 then .error (22, col) else wordsF s f (run s p).1 (col + (run s p).2) (out ++ [⟨2, sub s p ((run s p).1 - p), col⟩]))
      else if c = 3 then (if numW (sub s p ((run s p).1 - p)) < 0 then .error (21, col) else wordsF s f (run s p).1 (col + (run s p).2) (out ++ [⟨3, sub s p ((run s p).1 - p), col⟩]))
      else .error (20, col)
    else .ok out
def words (s : ByteArray) : Except (Int × Nat) (List Wd) := wordsF s s.size 0 1 []
/-- The lines of a text. -/
def linesF : List UInt8 → List UInt8 → List (List UInt8)
  | [], acc => [acc]
  | c :: r, acc => if c = 10 then acc :: linesF r [] else linesF r (acc ++ [c])
def lines (l : List UInt8) : List (List UInt8) := linesF l []
/-- The words of all lines: the line's number, its words, its characters; or an error, its line, its column. -/
def scanF : Nat → List (List UInt8) → Except (Int × Nat × Nat) (List (Nat × List Wd × Nat))
  | _, [] => .ok []
  | no, l :: ls => match words ⟨l.toArray⟩ with
    | .error (e, col) => .error (e, no + 1, col)
    | .ok ws => match scanF (no + 1) ls with
      | .error e => .error e
      | .ok rows => .ok ((no + 1, ws, cnt ⟨l.toArray⟩) :: rows)
def scan (t : List UInt8) : Except (Int × Nat × Nat) (List (Nat × List Wd × Nat)) := if 65536 < t.length then .error (2, 0, 0) else scanF 0 (lines t)
/-- The rows that have words. -/
def full (rows : List (Nat × List Wd × Nat)) : List (Nat × List Wd) := (rows.filter fun r => !r.2.1.isEmpty).map fun r => (r.1, r.2.1)
/-- A step: its kind, its three numbers, its bytes. -/
structure StepS where
  kind : Int
  a : Int
  b : Int
  c : Int
  data : List UInt8
/-- A step's words behind its name: a sign, a number (and where it goes), a text. -/
inductive Pl where
  | sign
  | num (i : Nat)
  | text
/-- The kinds of steps. -/
def stepRows : List (List UInt8 × Int × List Pl) :=
  [([112, 111, 108, 108], 1, [.sign]),
   ([99, 114, 97, 115, 104], 8, [.sign]),
   ([114, 101, 115, 116, 97, 114, 116], 10, [.sign]),
   ([102, 117, 115, 101], 9, [.sign, .num 1]),
   ([100, 101, 108, 105, 118, 101, 114], 2, [.num 0]),
   ([100, 114, 111, 112], 3, [.num 0]),
   ([100, 111, 117, 98, 108, 101], 4, [.num 0]),
   ([102, 108, 117, 115, 104], 11, [.num 0]),
   ([116, 117, 114, 110], 12, [.num 0]),
   ([109, 111, 118, 101], 5, [.num 0, .num 1]),
   ([115, 112, 111, 105, 108], 6, [.num 0, .num 1, .num 2]),
   ([102, 111, 114, 103, 101], 7, [.sign, .text])]
def fitsP : List Pl → List Wd → Bool
  | [], [] => true
  | .sign :: ps, w :: ws => decide (w.kind = 2) && decide (cnt ⟨w.text.toArray⟩ = 1) && fitsP ps ws
  | .num _ :: ps, w :: ws => decide (w.kind = 3) && fitsP ps ws
  | .text :: ps, w :: ws => decide (w.kind = 4) && fitsP ps ws
  | _, _ => false
/-- What a step's words say. -/
def readP (l : List Int) : List Pl → List Wd → StepS → Except Int StepS
  | .sign :: ps, w :: ws, s => if rn ⟨w.text.toArray⟩ 0 ∈ l then readP l ps ws { s with a := fnd l (rn ⟨w.text.toArray⟩ 0) 0 } else .error 41
  | .num i :: ps, w :: ws, s => if numW w.text < 0 then .error 21 else readP l ps ws (if i = 0 then { s with a := numW w.text } else if i = 1 then { s with b := numW w.text } else { s with c := numW w.text })
  | .text :: ps, w :: ws, s => (match unq ⟨w.text.toArray⟩ with
    | .error (e, _) => .error e
    | .ok b => readP l ps ws { s with data := b })
  | _, _, s => .ok s
def stepS (l : List Int) (ws : List Wd) : Except Int StepS := match ws with
  | [] => .error 200
  | w :: r => match stepRows.find? fun x => decide (w.kind = 2) && decide (w.text = x.1) && fitsP x.2.2 r with
    | none => .error 200
    | some x => readP l x.2.2 r ⟨x.2.1, 0, 0, 0, []⟩
def stepsF (l : List Int) : List (Nat × List Wd) → List StepS → Except (Int × Nat) (List StepS)
  | [], acc => .ok acc
  | (no, ws) :: r, acc => match stepS l ws with
    | .error e => .error (e, no)
    | .ok s => if 4096 ≤ acc.length then .error (2, no) else stepsF l r (acc ++ [s])
/-- The first row: the signs, the roster, the number of faults. -/
def headS (ws : List Wd) : Except Int (List UInt8 × List Int × Int) := match ws with
  | [w0, w1, w2, w3] =>
    if w0.kind = 2 ∧ w0.text = [110, 111, 100, 101, 115] ∧ w2.kind = 2 ∧ w2.text = [102, 97, 117, 108, 116, 115] ∧ w1.kind = 4 ∧ w3.kind = 3 then
      match unq ⟨w1.text.toArray⟩ with
      | .error (e, _) => .error e
      | .ok b => if (rosS ⟨b.toArray⟩).2.2 ≠ 0 then .error (rosS ⟨b.toArray⟩).2.2 else if numW w3.text < 0 then .error 21 else .ok (b, (rosS ⟨b.toArray⟩).1, numW w3.text)
    else .error 200
  | _ => .error 200
/-- What Parse answers: the signs, the faults, the steps; or an error and its line. -/
def parse (t : List UInt8) : Except (Int × Nat) (List UInt8 × Int × List StepS) := match scan t with
  | .error (e, no, _) => .error (e, no)
  | .ok rows => match full rows with
    | [] => .error (200, 0)
    | (no, ws) :: r => match headS ws with
      | .error e => .error (e, no)
      | .ok (b, l, f) => match stepsF l r [] with
        | .error e => .error e
        | .ok st => .ok (b, f, st)
/-! ### A text put behind a script -/
theorem linesF_append : ∀ (a b acc : List UInt8), linesF (a ++ 10 :: b) acc = linesF a acc ++ linesF b []
  | [], b, acc => by simp [linesF]
  | c :: a, b, acc => by
    simp only [List.cons_append, linesF]
    by_cases h : c = 10
    · rw [if_pos h, if_pos h, linesF_append a b []]
      rfl
    · rw [if_neg h, if_neg h, linesF_append a b _]
theorem lines_append (a b : List UInt8) : lines (a ++ 10 :: b) = lines a ++ lines b := linesF_append a b []
theorem linesF_len : ∀ (a acc : List UInt8), (linesF a acc).length = a.count 10 + 1
  | [], acc => rfl
  | c :: a, acc => by
    simp only [linesF]
    by_cases h : c = 10
    · subst h
      rw [if_pos rfl, List.length_cons, linesF_len a []]
      simp
    · rw [if_neg h, linesF_len a _]
      simp [List.count_cons, h]
theorem scanF_append : ∀ (a b : List (List UInt8)) (no : Nat) (ra : List (Nat × List Wd × Nat)), scanF no a = .ok ra → scanF no (a ++ b) = match scanF (no + a.length) b with
    | .error e => .error e
    | .ok rb => .ok (ra ++ rb)
  | [], b, no, ra, h => by
    simp only [scanF] at h
    injection h with h
    subst h
    simp only [List.nil_append, List.length_nil, Nat.add_zero]
    cases scanF no b <;> rfl
  | l :: a, b, no, ra, h => by
    simp only [scanF] at h
    simp only [List.cons_append, scanF]
    cases hw : words ⟨l.toArray⟩ with
    | error e => rw [hw] at h; cases h
    | ok ws =>
      rw [hw] at h
      simp only at h ⊢
      cases hr : scanF (no + 1) a with
      | error e => rw [hr] at h; cases h
      | ok rows =>
        rw [hr] at h
        simp only at h
        injection h with h
        subst h
        rw [scanF_append a b (no + 1) rows hr, List.length_cons, show no + 1 + a.length = no + (a.length + 1) by omega]
        cases scanF (no + (a.length + 1)) b <;> rfl
theorem scanF_no : ∀ (a : List (List UInt8)) (no : Nat), (∀ e l c, scanF no a = .error (e, l, c) → no < l) ∧ ∀ ra, scanF no a = .ok ra → ∀ x ∈ ra, no < x.1
  | [], no => ⟨fun e l c h => (by cases h), fun ra h x hx => (by injection h with h; subst h; simp at hx)⟩
  | l :: a, no => by
    have ih := scanF_no a (no + 1)
    simp only [scanF]
    cases hw : words ⟨l.toArray⟩ with
    | error e =>
      refine ⟨fun e' l' c h => ?_, fun ra h => by cases h⟩
      obtain ⟨e1, e2⟩ := e
      simp only at h
      injection h with h
      simp only [Prod.mk.injEq] at h
      omega
    | ok ws =>
      simp only
      cases hr : scanF (no + 1) a with
      | error e =>
        refine ⟨fun e' l' c h => ?_, fun ra h => by cases h⟩
        simp only at h
        injection h with h
        subst h
        have := ih.1 _ _ _ hr
        omega
      | ok rows =>
        refine ⟨fun e' l' c h => (by cases h), fun ra h x hx => ?_⟩
        simp only at h
        injection h with h
        subst h
        rcases List.mem_cons.1 hx with rfl | hx
        · simp
        · have := ih.2 rows hr x hx
          omega
theorem full_append (a b : List (Nat × List Wd × Nat)) : full (a ++ b) = full a ++ full b := by simp [full]
theorem full_mem {a : List (Nat × List Wd × Nat)} {n : Nat} (h : ∀ x ∈ a, n < x.1) : ∀ y ∈ full a, n < y.1 := by
  intro y hy
  simp only [full, List.mem_map, List.mem_filter] at hy
  obtain ⟨x, ⟨hx, _⟩, rfl⟩ := hy
  exact h x hx
theorem stepsF_append (l : List Int) : ∀ (a b : List (Nat × List Wd)) (acc s : List StepS), stepsF l a acc = .ok s → stepsF l (a ++ b) acc = stepsF l b s
  | [], b, acc, s, h => by
    simp only [stepsF] at h
    injection h with h
    subst h
    rfl
  | (no, ws) :: a, b, acc, s, h => by
    simp only [stepsF] at h
    simp only [List.cons_append, stepsF]
    cases hs : stepS l ws with
    | error e => rw [hs] at h; cases h
    | ok x =>
      rw [hs] at h
      simp only at h ⊢
      by_cases hl : 4096 ≤ acc.length
      · rw [if_pos hl] at h; cases h
      · rw [if_neg hl] at h ⊢
        exact stepsF_append l a b _ s h
theorem stepsF_more (l : List Int) : ∀ (b : List (Nat × List Wd)) (acc : List StepS) (n : Nat), (∀ y ∈ b, n < y.1) → (∀ e k, stepsF l b acc = .error (e, k) → n < k) ∧ ∀ s, stepsF l b acc = .ok s → acc.length ≤ s.length ∧ s.take acc.length = acc
  | [], acc, n, h => ⟨fun e k h => (by cases h), fun s h => (by injection h with h; subst h; simp)⟩
  | (no, ws) :: b, acc, n, h => by
    simp only [stepsF]
    have hno : n < no := h (no, ws) (by simp)
    cases hs : stepS l ws with
    | error e =>
      refine ⟨fun e' k h => ?_, fun s h => by cases h⟩
      simp only at h
      injection h with h
      simp only [Prod.mk.injEq] at h
      omega
    | ok x =>
      simp only
      by_cases hl : 4096 ≤ acc.length
      · rw [if_pos hl]
        refine ⟨fun e' k h => ?_, fun s h => by cases h⟩
        injection h with h
        simp only [Prod.mk.injEq] at h
        omega
      · rw [if_neg hl]
        have ih := stepsF_more l b (acc ++ [x]) n (fun y hy => h y (by simp [hy]))
        refine ⟨ih.1, fun s hs => ?_⟩
        have := ih.2 s hs
        rw [List.length_append, List.length_singleton] at this
        refine ⟨by omega, ?_⟩
        have h2 := congrArg (List.take acc.length) this.2
        rw [List.take_take, List.take_append_of_le_length (Nat.le_refl _), List.take_length] at h2
        rw [show min acc.length (acc.length + 1) = acc.length by omega] at h2
        exact h2
/-- The law of ScriptLines. -/
theorem parse_lines (t more : List UInt8) (b : List UInt8) (f : Int) (L : List StepS) (h : parse t = .ok (b, f, L)) (hlen : t.length + more.length ≤ 60000) :
    match parse (t ++ 10 :: more) with
    | .ok (_, _, M) => L.length ≤ M.length ∧ M.take L.length = L
    | .error (_, line) => t.count 10 + 1 < line := by
  unfold parse at h ⊢
  unfold scan at h ⊢
  rw [if_neg (by omega)] at h
  rw [if_neg (by simp; omega), lines_append]
  cases hs : scanF 0 (lines t) with
  | error e => rw [hs] at h; cases h
  | ok rows =>
    rw [hs] at h
    simp only at h
    have ha := scanF_append (lines t) (lines more) 0 rows hs
    rw [Nat.zero_add] at ha
    have hnl : (lines t).length = t.count 10 + 1 := linesF_len t []
    have hno := scanF_no (lines more) (lines t).length
    rw [ha]
    cases hm : scanF (lines t).length (lines more) with
    | error e =>
      obtain ⟨e1, e2, e3⟩ := e
      have := hno.1 _ _ _ hm
      simp only
      omega
    | ok rb =>
      have hrb := full_mem (hno.2 rb hm)
      simp only
      rw [full_append]
      cases hf : full rows with
      | nil => rw [hf] at h; cases h
      | cons x r =>
        obtain ⟨no, ws⟩ := x
        rw [hf] at h
        simp only [List.cons_append] at h ⊢
        cases hh : headS ws with
        | error e => rw [hh] at h; cases h
        | ok p =>
          obtain ⟨b', l, f'⟩ := p
          rw [hh] at h
          simp only at h ⊢
          cases hst : stepsF l r [] with
          | error e => rw [hst] at h; cases h
          | ok st =>
            rw [hst] at h
            simp only at h
            injection h with h
            simp only [Prod.mk.injEq] at h
            obtain ⟨_, _, rfl⟩ := h
            rw [stepsF_append l r (full rb) [] st hst]
            have hmo := stepsF_more l (full rb) st (lines t).length hrb
            cases hx : stepsF l (full rb) st with
            | error e =>
              obtain ⟨e1, e2⟩ := e
              have := hmo.1 _ _ hx
              simp only
              omega
            | ok M =>
              simp only
              exact hmo.2 M hx
end Go.Ear
