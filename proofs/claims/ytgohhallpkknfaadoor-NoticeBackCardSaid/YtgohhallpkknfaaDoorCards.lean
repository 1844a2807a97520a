/-
  DERIVED. GIVEN WITH THE SEED: THE CARDS: each row of YtgohhallpkknfaaDoorRows.lean that lists a variable, with what it lists TIED to the program's text (the seventh form; the later family's looks); each row that meets fmt, with fmt's text TOLD by the authors' own Lean function (tested against real Go, not proved from fmt's source: count such statements apart). THE CARD IS WHAT COUNTS. Prove the row's statement (the work); the ties are given (YtgohhallpkknfaaDoorTie.lean); close each card by the builder's one call (the guide's Derived/Test/ToyasCard.lean, 'card_holds'). Laid BY PROGRAM, IN A SANDBOX (cutbox-door.mjs). By AI agents, Wed Nov 11 2026. No macro, syntax, notation, axiom, sorry.
-/
import Derived.Test.YtgohhallpkknfaaDoorRows
import GoSem.ClaimSeven
namespace Go.Proofs.YtgohhallpkknfaaDoor
namespace Rows

/-- THE TIED CARD OF 'earshotlaw5.NoticePrints'. -/
def noticePrintsCard : Claim7 := { stood := { row := noticePrintsRow, standIns := [], harness := (true, "48fd5caf19d49207ec1ba403ee30353276dd8fb551fcc3903c7cf878294012dc"), looks := true }, kinds := [], alts := [], laidByText := true, laidKinds := [.data, .data, .data], laidTests := true, laidLooks := .later }
def NoticePrintsCardSaid : Prop := Claim7.holds Tryd.pinned (.plain (OpenSpec.ofChange noticePrintsSpec)) noticePrintsCard

/-- THE TIED CARD OF 'earshotlaw5.NoticeReads'. -/
def noticeReadsCard : Claim7 := { stood := { row := noticeReadsRow, standIns := [], harness := (true, "48fd5caf19d49207ec1ba403ee30353276dd8fb551fcc3903c7cf878294012dc"), looks := true }, kinds := [], alts := [], laidByText := true, laidKinds := [.data, .data, .data, .sentinel, .sentinel], laidTests := true, laidLooks := .later }
def NoticeReadsCardSaid : Prop := Claim7.holds Tryd.pinned (.plain (OpenSpec.ofChange noticeReadsSpec)) noticeReadsCard

/-- THE TIED CARD OF 'earshotlaw5.NoticeBack'. -/
def noticeBackCard : Claim7 := { stood := { row := noticeBackRow, standIns := [], harness := (true, "48fd5caf19d49207ec1ba403ee30353276dd8fb551fcc3903c7cf878294012dc"), looks := true }, kinds := [], alts := [], laidByText := true, laidKinds := [.data, .data, .data, .sentinel, .sentinel], laidTests := true, laidLooks := .later }
def NoticeBackCardSaid : Prop := Claim7.holds Tryd.pinned (.plain (OpenSpec.ofChange noticeBackSpec)) noticeBackCard

/-- THE SECOND FORM's CARD OF 'earshotlaw5.NoticePrints'. -/
def noticePrintsUptoCard : Claim7 := { stood := { row := noticePrintsUptoRow, standIns := [], harness := (true, "48fd5caf19d49207ec1ba403ee30353276dd8fb551fcc3903c7cf878294012dc"), looks := true }, kinds := [], alts := [], laidByText := true, laidKinds := [.data, .data, .data], laidTests := true, laidLooks := .later }
def NoticePrintsUptoCardSaid : Prop := Claim7.holds Tryd.pinned (.plain (OpenSpec.upto noticePrintsSpec)) noticePrintsUptoCard

/-- THE SECOND FORM's CARD OF 'earshotlaw5.NoticeReads'. -/
def noticeReadsUptoCard : Claim7 := { stood := { row := noticeReadsUptoRow, standIns := [], harness := (true, "48fd5caf19d49207ec1ba403ee30353276dd8fb551fcc3903c7cf878294012dc"), looks := true }, kinds := [], alts := [], laidByText := true, laidKinds := [.data, .data, .data, .sentinel, .sentinel], laidTests := true, laidLooks := .later }
def NoticeReadsUptoCardSaid : Prop := Claim7.holds Tryd.pinned (.plain (OpenSpec.upto noticeReadsSpec)) noticeReadsUptoCard

/-- THE SECOND FORM's CARD OF 'earshotlaw5.NoticeBack'. -/
def noticeBackUptoCard : Claim7 := { stood := { row := noticeBackUptoRow, standIns := [], harness := (true, "48fd5caf19d49207ec1ba403ee30353276dd8fb551fcc3903c7cf878294012dc"), looks := true }, kinds := [], alts := [], laidByText := true, laidKinds := [.data, .data, .data, .sentinel, .sentinel], laidTests := true, laidLooks := .later }
def NoticeBackUptoCardSaid : Prop := Claim7.holds Tryd.pinned (.plain (OpenSpec.upto noticeBackSpec)) noticeBackUptoCard
end Rows
end Go.Proofs.YtgohhallpkknfaaDoor
