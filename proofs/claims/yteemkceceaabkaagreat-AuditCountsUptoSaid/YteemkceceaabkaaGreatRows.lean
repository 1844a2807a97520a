/-
  No cell of these rows narrows 'for every input' (looked for: loops, veiled, ifaces, maps, wideKeys, modest, calm, conditions, laid).
  DERIVED. THE GIVEN ROWS OF THIS SEAT. 3 by the template 'for every input the law returns true; each argument reads behind the call as it read before'; 0 by the template 'total and deterministic' (their statements: YteemkceceaabkaaGreatTotals.lean).
  GIVEN WITH THE SEED: the statements are not yours to turn. If you find one false, say at which input.
  Laid BY PROGRAM, IN A SANDBOX (cutbox-rows.mjs): the forced cells as the released guide's own fill.sh prints them over the translation 1485be571be6a103… (all of the seat's roots in one cut). By AI agents, Wed Nov 11 2026. No macro, syntax, notation, axiom, sorry.
-/
import Derived.Test.YteemkceceaabkaaGreatChecked
import GoSem.Claim
import GoSem.ClaimJoined
import GoSem.ClaimMapViews
import Derived.JoinedTies
import Derived.KernelRfl
namespace Go.Proofs.YteemkceceaabkaaGreat
/- THE CELL 'sum', in the pinned program and in every row, IS THE sha256 OF THE DUMP (.gsa) THAT YteemkceceaabkaaGreatProg.lean LOADS. Nothing in Lean hashes anything: it is a label: what it is worth is what the hold of that sum in a sandbox is worth. -/
noncomputable def Tryz.pinned : Pinned := { name := "yteemkceceaabkaagreat", sum := "1485be571be6a10332cb1a7501302bc7a403864825b4583be6150547be6e7f74", checked := Tryz.checked }
namespace Rows
def none {H : Type} : Left H := { results := [], args := [] }

/-- 'earshotlaw9.BagPlays': WHATEVER THE INPUT: true; the input reads as it did. -/
def bagPlaysSpec : ChangeSpec := { name := "bagPlays", fn := fun _ => fun
  | [d1, d2] => { results := [.lit (.bool true)], args := [d1, d2] }
  | _ => none }
def bagPlaysRow : OpenClaim := { program := "yteemkceceaabkaagreat", sum := "1485be571be6a10332cb1a7501302bc7a403864825b4583be6150547be6e7f74", func := "earshot/earshotlaw9.BagPlays", spec := "bagPlays", unfollowed := true, recurses := true, apart := false }
def BagPlaysSaid : Prop := bagPlaysRow.holds Tryz.pinned (OpenSpec.ofChange bagPlaysSpec)

/-- ITS FALSE NEIGHBOUR: 'it returns false'. Refute it at one input. -/
def bagPlaysWrong : ChangeSpec := { name := "bagPlays", fn := fun _ => fun
  | [d1, d2] => { results := [.lit (.bool false)], args := [d1, d2] }
  | _ => none }
def BagPlaysWrongFalsely : Prop := bagPlaysRow.holds Tryz.pinned (OpenSpec.ofChange bagPlaysWrong)

/-- 'earshotlaw9.BagAll': WHATEVER THE INPUT: true; the input reads as it did. -/
def bagAllSpec : ChangeSpec := { name := "bagAll", fn := fun _ => fun
  | [d1, d2] => { results := [.lit (.bool true)], args := [d1, d2] }
  | _ => none }
def bagAllRow : OpenClaim := { program := "yteemkceceaabkaagreat", sum := "1485be571be6a10332cb1a7501302bc7a403864825b4583be6150547be6e7f74", func := "earshot/earshotlaw9.BagAll", spec := "bagAll", unfollowed := true, recurses := true, apart := false }
def BagAllSaid : Prop := bagAllRow.holds Tryz.pinned (OpenSpec.ofChange bagAllSpec)

/-- ITS FALSE NEIGHBOUR: 'it returns false'. Refute it at one input. -/
def bagAllWrong : ChangeSpec := { name := "bagAll", fn := fun _ => fun
  | [d1, d2] => { results := [.lit (.bool false)], args := [d1, d2] }
  | _ => none }
def BagAllWrongFalsely : Prop := bagAllRow.holds Tryz.pinned (OpenSpec.ofChange bagAllWrong)

/-- 'earshotlaw19.AuditCounts': WHATEVER THE INPUT: true; the input reads as it did. -/
def auditCountsSpec : ChangeSpec := { name := "auditCounts", fn := fun _ => fun
  | [d1, d2] => { results := [.lit (.bool true)], args := [d1, d2] }
  | _ => none }
def auditCountsRow : OpenClaim := { program := "yteemkceceaabkaagreat", sum := "1485be571be6a10332cb1a7501302bc7a403864825b4583be6150547be6e7f74", func := "earshot/earshotlaw19.AuditCounts", spec := "auditCounts", unfollowed := true, recurses := true, apart := false }
def AuditCountsSaid : Prop := auditCountsRow.holds Tryz.pinned (OpenSpec.ofChange auditCountsSpec)

/-- ITS FALSE NEIGHBOUR: 'it returns false'. Refute it at one input. -/
def auditCountsWrong : ChangeSpec := { name := "auditCounts", fn := fun _ => fun
  | [d1, d2] => { results := [.lit (.bool false)], args := [d1, d2] }
  | _ => none }
def AuditCountsWrongFalsely : Prop := auditCountsRow.holds Tryz.pinned (OpenSpec.ofChange auditCountsWrong)

/- THE SECOND FORM. 'bulk': how many values and letters a reading holds, each counted each time it is reached (what is shared counts as often as it is met; a slice's spare places count too). A statement '..UptoSaid' is the law's where the arguments, and the package variables that the reading takes, are together of bulk at most 1048576: NARROWER than '..Said'. Prove '..Said' where nothing that the law and all that it calls make is longer than what came in: it says more and counts as full. Else prove '..UptoSaid'. A law counts once. -/
mutual
def uptoBulk {H : Type} : DataW H → Nat
  | .lit (.string bytes) => bytes.length + 1
  | .lit _ => 1
  | .nil => 1
  | .ptr d => uptoBulk d + 1
  | .slice elems spare => uptoBulkAll elems + uptoBulkAll spare + 1
  | .agg parts => uptoBulkAll parts + 1
  | .iface _ d => uptoBulk d + 1
  | .map entries => uptoBulkEntries entries + 1
  | .held _ => 1
def uptoBulkAll {H : Type} : List (DataW H) → Nat
  | [] => 0
  | d :: r => uptoBulk d + uptoBulkAll r
def uptoBulkEntries {H : Type} : List (Lit × DataW H) → Nat
  | [] => 0
  | x :: r => uptoBulkEntry x + uptoBulkEntries r
def uptoBulkEntry {H : Type} : Lit × DataW H → Nat
  | (.string bytes, d) => bytes.length + uptoBulk d + 1
  | (_, d) => uptoBulk d + 1
 end
def uptoSmall : (H : Type) → List (DataW H) → Bool := fun _ ds => decide (uptoBulkAll ds ≤ 1048576)
def OpenSpec.upto (s : _root_.Go.ChangeSpec) : _root_.Go.OpenSpec := { _root_.Go.OpenSpec.ofChange s with cond := some uptoSmall }

/-- 'earshotlaw9.BagPlays', WHERE WHAT IT READS IS OF BULK AT MOST 1048576: true; the input reads as it did. -/
def bagPlaysUptoRow : OpenClaim := { program := "yteemkceceaabkaagreat", sum := "1485be571be6a10332cb1a7501302bc7a403864825b4583be6150547be6e7f74", func := "earshot/earshotlaw9.BagPlays", spec := "bagPlays", unfollowed := true, recurses := true, apart := false, narrowed := true }
def BagPlaysUptoSaid : Prop := bagPlaysUptoRow.holds Tryz.pinned (OpenSpec.upto bagPlaysSpec)

/-- 'earshotlaw9.BagAll', WHERE WHAT IT READS IS OF BULK AT MOST 1048576: true; the input reads as it did. -/
def bagAllUptoRow : OpenClaim := { program := "yteemkceceaabkaagreat", sum := "1485be571be6a10332cb1a7501302bc7a403864825b4583be6150547be6e7f74", func := "earshot/earshotlaw9.BagAll", spec := "bagAll", unfollowed := true, recurses := true, apart := false, narrowed := true }
def BagAllUptoSaid : Prop := bagAllUptoRow.holds Tryz.pinned (OpenSpec.upto bagAllSpec)

/-- 'earshotlaw19.AuditCounts', WHERE WHAT IT READS IS OF BULK AT MOST 1048576: true; the input reads as it did. -/
def auditCountsUptoRow : OpenClaim := { program := "yteemkceceaabkaagreat", sum := "1485be571be6a10332cb1a7501302bc7a403864825b4583be6150547be6e7f74", func := "earshot/earshotlaw19.AuditCounts", spec := "auditCounts", unfollowed := true, recurses := true, apart := false, narrowed := true }
def AuditCountsUptoSaid : Prop := auditCountsUptoRow.holds Tryz.pinned (OpenSpec.upto auditCountsSpec)

end Rows
end Go.Proofs.YteemkceceaabkaaGreat
