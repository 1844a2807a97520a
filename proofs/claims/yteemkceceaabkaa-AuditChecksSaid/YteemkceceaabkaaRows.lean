/-
  No cell of these rows narrows 'for every input' (looked for: loops, veiled, ifaces, maps, wideKeys, modest, calm, conditions, laid).
  DERIVED. THE GIVEN ROWS OF THIS SEAT. 6 by the template 'for every input the law returns true; each argument reads behind the call as it read before'; 0 by the template 'total and deterministic' (their statements: YteemkceceaabkaaTotals.lean).
  GIVEN WITH THE SEED: the statements are not yours to turn. If you find one false, say at which input.
  Laid BY PROGRAM, IN A SANDBOX (cutbox-rows.mjs): the forced cells as the released guide's own fill.sh prints them over the translation f5d18653cd10b019… (all of the seat's roots in one cut). By AI agents, Wed Nov 11 2026. No macro, syntax, notation, axiom, sorry.
-/
import Derived.Test.YteemkceceaabkaaChecked
import GoSem.Claim
import GoSem.ClaimJoined
import GoSem.ClaimMapViews
import Derived.JoinedTies
import Derived.KernelRfl
namespace Go.Proofs.Yteemkceceaabkaa
/- THE CELL 'sum', in the pinned program and in every row, IS THE sha256 OF THE DUMP (.gsa) THAT YteemkceceaabkaaProg.lean LOADS. Nothing in Lean hashes anything: it is a label: what it is worth is what the hold of that sum in a sandbox is worth. -/
noncomputable def Try.pinned : Pinned := { name := "yteemkceceaabkaa", sum := "f5d18653cd10b019d1e31e967b2457ff00586c5de521ab5a7e72543bf6c9704b", checked := Try.checked }
namespace Rows
def none {H : Type} : Left H := { results := [], args := [] }

/-- 'earshotlaw9.BagGoes': WHATEVER THE INPUT: true; the input reads as it did. -/
def bagGoesSpec : ChangeSpec := { name := "bagGoes", fn := fun _ => fun
  | [d1, d2] => { results := [.lit (.bool true)], args := [d1, d2] }
  | _ => none }
def bagGoesRow : OpenClaim := { program := "yteemkceceaabkaa", sum := "f5d18653cd10b019d1e31e967b2457ff00586c5de521ab5a7e72543bf6c9704b", func := "earshot/earshotlaw9.BagGoes", spec := "bagGoes", unfollowed := true, recurses := true, apart := false }
def BagGoesSaid : Prop := bagGoesRow.holds Try.pinned (OpenSpec.ofChange bagGoesSpec)

/-- ITS FALSE NEIGHBOUR: 'it returns false'. Refute it at one input. -/
def bagGoesWrong : ChangeSpec := { name := "bagGoes", fn := fun _ => fun
  | [d1, d2] => { results := [.lit (.bool false)], args := [d1, d2] }
  | _ => none }
def BagGoesWrongFalsely : Prop := bagGoesRow.holds Try.pinned (OpenSpec.ofChange bagGoesWrong)

/-- 'earshotlaw9.BagDoubled': WHATEVER THE INPUT: true; the input reads as it did. -/
def bagDoubledSpec : ChangeSpec := { name := "bagDoubled", fn := fun _ => fun
  | [d1, d2] => { results := [.lit (.bool true)], args := [d1, d2] }
  | _ => none }
def bagDoubledRow : OpenClaim := { program := "yteemkceceaabkaa", sum := "f5d18653cd10b019d1e31e967b2457ff00586c5de521ab5a7e72543bf6c9704b", func := "earshot/earshotlaw9.BagDoubled", spec := "bagDoubled", apart := false }
def BagDoubledSaid : Prop := bagDoubledRow.holds Try.pinned (OpenSpec.ofChange bagDoubledSpec)

/-- ITS FALSE NEIGHBOUR: 'it returns false'. Refute it at one input. -/
def bagDoubledWrong : ChangeSpec := { name := "bagDoubled", fn := fun _ => fun
  | [d1, d2] => { results := [.lit (.bool false)], args := [d1, d2] }
  | _ => none }
def BagDoubledWrongFalsely : Prop := bagDoubledRow.holds Try.pinned (OpenSpec.ofChange bagDoubledWrong)

/-- 'earshotlaw9.BagMoved': WHATEVER THE INPUT: true; the input reads as it did. -/
def bagMovedSpec : ChangeSpec := { name := "bagMoved", fn := fun _ => fun
  | [d1, d2, d3] => { results := [.lit (.bool true)], args := [d1, d2, d3] }
  | _ => none }
def bagMovedRow : OpenClaim := { program := "yteemkceceaabkaa", sum := "f5d18653cd10b019d1e31e967b2457ff00586c5de521ab5a7e72543bf6c9704b", func := "earshot/earshotlaw9.BagMoved", spec := "bagMoved", unfollowed := true, recurses := true, apart := false }
def BagMovedSaid : Prop := bagMovedRow.holds Try.pinned (OpenSpec.ofChange bagMovedSpec)

/-- ITS FALSE NEIGHBOUR: 'it returns false'. Refute it at one input. -/
def bagMovedWrong : ChangeSpec := { name := "bagMoved", fn := fun _ => fun
  | [d1, d2, d3] => { results := [.lit (.bool false)], args := [d1, d2, d3] }
  | _ => none }
def BagMovedWrongFalsely : Prop := bagMovedRow.holds Try.pinned (OpenSpec.ofChange bagMovedWrong)

/-- 'earshotlaw9.BagSpoilt': WHATEVER THE INPUT: true; the input reads as it did. -/
def bagSpoiltSpec : ChangeSpec := { name := "bagSpoilt", fn := fun _ => fun
  | [d1, d2, d3, d4] => { results := [.lit (.bool true)], args := [d1, d2, d3, d4] }
  | _ => none }
def bagSpoiltRow : OpenClaim := { program := "yteemkceceaabkaa", sum := "f5d18653cd10b019d1e31e967b2457ff00586c5de521ab5a7e72543bf6c9704b", func := "earshot/earshotlaw9.BagSpoilt", spec := "bagSpoilt", unfollowed := true, recurses := true, apart := false }
def BagSpoiltSaid : Prop := bagSpoiltRow.holds Try.pinned (OpenSpec.ofChange bagSpoiltSpec)

/-- ITS FALSE NEIGHBOUR: 'it returns false'. Refute it at one input. -/
def bagSpoiltWrong : ChangeSpec := { name := "bagSpoilt", fn := fun _ => fun
  | [d1, d2, d3, d4] => { results := [.lit (.bool false)], args := [d1, d2, d3, d4] }
  | _ => none }
def BagSpoiltWrongFalsely : Prop := bagSpoiltRow.holds Try.pinned (OpenSpec.ofChange bagSpoiltWrong)

/-- 'earshotlaw9.BagKeeps': WHATEVER THE INPUT: true; the input reads as it did. -/
def bagKeepsSpec : ChangeSpec := { name := "bagKeeps", fn := fun _ => fun
  | [d1, d2] => { results := [.lit (.bool true)], args := [d1, d2] }
  | _ => none }
def bagKeepsRow : OpenClaim := { program := "yteemkceceaabkaa", sum := "f5d18653cd10b019d1e31e967b2457ff00586c5de521ab5a7e72543bf6c9704b", func := "earshot/earshotlaw9.BagKeeps", spec := "bagKeeps", unfollowed := true, recurses := true, apart := false }
def BagKeepsSaid : Prop := bagKeepsRow.holds Try.pinned (OpenSpec.ofChange bagKeepsSpec)

/-- ITS FALSE NEIGHBOUR: 'it returns false'. Refute it at one input. -/
def bagKeepsWrong : ChangeSpec := { name := "bagKeeps", fn := fun _ => fun
  | [d1, d2] => { results := [.lit (.bool false)], args := [d1, d2] }
  | _ => none }
def BagKeepsWrongFalsely : Prop := bagKeepsRow.holds Try.pinned (OpenSpec.ofChange bagKeepsWrong)

/-- 'earshotlaw19.AuditChecks': WHATEVER THE INPUT: true; the input reads as it did. -/
def auditChecksSpec : ChangeSpec := { name := "auditChecks", fn := fun _ => fun
  | [d1, d2, d3] => { results := [.lit (.bool true)], args := [d1, d2, d3] }
  | _ => none }
def auditChecksRow : OpenClaim := { program := "yteemkceceaabkaa", sum := "f5d18653cd10b019d1e31e967b2457ff00586c5de521ab5a7e72543bf6c9704b", func := "earshot/earshotlaw19.AuditChecks", spec := "auditChecks", unfollowed := true, recurses := true, apart := false }
def AuditChecksSaid : Prop := auditChecksRow.holds Try.pinned (OpenSpec.ofChange auditChecksSpec)

/-- ITS FALSE NEIGHBOUR: 'it returns false'. Refute it at one input. -/
def auditChecksWrong : ChangeSpec := { name := "auditChecks", fn := fun _ => fun
  | [d1, d2, d3] => { results := [.lit (.bool false)], args := [d1, d2, d3] }
  | _ => none }
def AuditChecksWrongFalsely : Prop := auditChecksRow.holds Try.pinned (OpenSpec.ofChange auditChecksWrong)

/- THE SECOND FORM. 'bulk': how many values and letters a reading holds, each counted each time it is reached (what is shared counts as often as it is met; a slice's spare places count too). A statement '..UptoSaid' is the law's where the arguments, and the package variables that the reading takes, are together of bulk at most 1048576: NARROWER than '..Said'. Prove '..Said' where nothing that the law and all that it calls make is longer than what came in: it says more and counts as full. Else prove '..UptoSaid'. A law counts once. -/
mutual
def uptoBulk {H : Type} : DataW H → Nat
  | .lit (.string bytes) => bytes.length + 1
  | .lit _ => 1
  | .nil => 1
  | .ptr d => uptoBulk d + 1
  | .slice elems spare => uptoBulkAll elems + uptoBulkAll spare + 1
  | .agg parts => uptoBulkAll parts + 1
  | .iface _ d => uptoBulk d + 1
  | .map entries => uptoBulkEntries entries + 1
  | .held _ => 1
def uptoBulkAll {H : Type} : List (DataW H) → Nat
  | [] => 0
  | d :: r => uptoBulk d + uptoBulkAll r
def uptoBulkEntries {H : Type} : List (Lit × DataW H) → Nat
  | [] => 0
  | x :: r => uptoBulkEntry x + uptoBulkEntries r
def uptoBulkEntry {H : Type} : Lit × DataW H → Nat
  | (.string bytes, d) => bytes.length + uptoBulk d + 1
  | (_, d) => uptoBulk d + 1
 end
def uptoSmall : (H : Type) → List (DataW H) → Bool := fun _ ds => decide (uptoBulkAll ds ≤ 1048576)
def OpenSpec.upto (s : _root_.Go.ChangeSpec) : _root_.Go.OpenSpec := { _root_.Go.OpenSpec.ofChange s with cond := some uptoSmall }

/-- 'earshotlaw9.BagGoes', WHERE WHAT IT READS IS OF BULK AT MOST 1048576: true; the input reads as it did. -/
def bagGoesUptoRow : OpenClaim := { program := "yteemkceceaabkaa", sum := "f5d18653cd10b019d1e31e967b2457ff00586c5de521ab5a7e72543bf6c9704b", func := "earshot/earshotlaw9.BagGoes", spec := "bagGoes", unfollowed := true, recurses := true, apart := false, narrowed := true }
def BagGoesUptoSaid : Prop := bagGoesUptoRow.holds Try.pinned (OpenSpec.upto bagGoesSpec)

/-- 'earshotlaw9.BagDoubled', WHERE WHAT IT READS IS OF BULK AT MOST 1048576: true; the input reads as it did. -/
def bagDoubledUptoRow : OpenClaim := { program := "yteemkceceaabkaa", sum := "f5d18653cd10b019d1e31e967b2457ff00586c5de521ab5a7e72543bf6c9704b", func := "earshot/earshotlaw9.BagDoubled", spec := "bagDoubled", apart := false, narrowed := true }
def BagDoubledUptoSaid : Prop := bagDoubledUptoRow.holds Try.pinned (OpenSpec.upto bagDoubledSpec)

/-- 'earshotlaw9.BagMoved', WHERE WHAT IT READS IS OF BULK AT MOST 1048576: true; the input reads as it did. -/
def bagMovedUptoRow : OpenClaim := { program := "yteemkceceaabkaa", sum := "f5d18653cd10b019d1e31e967b2457ff00586c5de521ab5a7e72543bf6c9704b", func := "earshot/earshotlaw9.BagMoved", spec := "bagMoved", unfollowed := true, recurses := true, apart := false, narrowed := true }
def BagMovedUptoSaid : Prop := bagMovedUptoRow.holds Try.pinned (OpenSpec.upto bagMovedSpec)

/-- 'earshotlaw9.BagSpoilt', WHERE WHAT IT READS IS OF BULK AT MOST 1048576: true; the input reads as it did. -/
def bagSpoiltUptoRow : OpenClaim := { program := "yteemkceceaabkaa", sum := "f5d18653cd10b019d1e31e967b2457ff00586c5de521ab5a7e72543bf6c9704b", func := "earshot/earshotlaw9.BagSpoilt", spec := "bagSpoilt", unfollowed := true, recurses := true, apart := false, narrowed := true }
def BagSpoiltUptoSaid : Prop := bagSpoiltUptoRow.holds Try.pinned (OpenSpec.upto bagSpoiltSpec)

/-- 'earshotlaw9.BagKeeps', WHERE WHAT IT READS IS OF BULK AT MOST 1048576: true; the input reads as it did. -/
def bagKeepsUptoRow : OpenClaim := { program := "yteemkceceaabkaa", sum := "f5d18653cd10b019d1e31e967b2457ff00586c5de521ab5a7e72543bf6c9704b", func := "earshot/earshotlaw9.BagKeeps", spec := "bagKeeps", unfollowed := true, recurses := true, apart := false, narrowed := true }
def BagKeepsUptoSaid : Prop := bagKeepsUptoRow.holds Try.pinned (OpenSpec.upto bagKeepsSpec)

/-- 'earshotlaw19.AuditChecks', WHERE WHAT IT READS IS OF BULK AT MOST 1048576: true; the input reads as it did. -/
def auditChecksUptoRow : OpenClaim := { program := "yteemkceceaabkaa", sum := "f5d18653cd10b019d1e31e967b2457ff00586c5de521ab5a7e72543bf6c9704b", func := "earshot/earshotlaw19.AuditChecks", spec := "auditChecks", unfollowed := true, recurses := true, apart := false, narrowed := true }
def AuditChecksUptoSaid : Prop := auditChecksUptoRow.holds Try.pinned (OpenSpec.upto auditChecksSpec)

end Rows
end Go.Proofs.Yteemkceceaabkaa
