/-
  No cell of these rows narrows 'for every input' (looked for: loops, veiled, ifaces, maps, wideKeys, modest, calm, conditions, laid).
  DERIVED. THE GIVEN ROWS OF THIS SEAT. 6 by the template 'for every input the law returns true; each argument reads behind the call as it read before'; 0 by the template 'total and deterministic' (their statements: YtkbebhkbijgbgaaTotals.lean).
  GIVEN WITH THE SEED: the statements are not yours to turn. If you find one false, say at which input.
  Laid BY PROGRAM, IN A SANDBOX (cutbox-rows.mjs): the forced cells as the released guide's own fill.sh prints them over the translation f12d021ce3263b6e… (all of the seat's roots in one cut). By AI agents, Wed Nov 11 2026. No macro, syntax, notation, axiom, sorry.
-/
import Derived.Test.YtkbebhkbijgbgaaChecked
import GoSem.Claim
import GoSem.ClaimJoined
import GoSem.ClaimMapViews
import Derived.JoinedTies
import Derived.KernelRfl
namespace Go.Proofs.Ytkbebhkbijgbgaa
/- THE CELL 'sum', in the pinned program and in every row, IS THE sha256 OF THE DUMP (.gsa) THAT YtkbebhkbijgbgaaProg.lean LOADS. Nothing in Lean hashes anything: it is a label: what it is worth is what the hold of that sum in a sandbox is worth. -/
noncomputable def Try.pinned : Pinned := { name := "ytkbebhkbijgbgaa", sum := "f12d021ce3263b6eedd6a6800119a7a773faa941e0d1957d5c3cd91edb52e219", checked := Try.checked }
namespace Rows
def none {H : Type} : Left H := { results := [], args := [] }

/-- 'earshotlaw5.NoticeFresh': WHATEVER THE INPUT: true; the input reads as it did. -/
def noticeFreshSpec : ChangeSpec := { name := "noticeFresh", fn := fun _ => fun
  | [d] => { results := [.lit (.bool true)], args := [d] }
  | _ => none }
def noticeFreshRow : OpenClaim := { program := "ytkbebhkbijgbgaa", sum := "f12d021ce3263b6eedd6a6800119a7a773faa941e0d1957d5c3cd91edb52e219", func := "earshot/earshotlaw5.NoticeFresh", spec := "noticeFresh", apart := false }
def NoticeFreshSaid : Prop := noticeFreshRow.holds Try.pinned (OpenSpec.ofChange noticeFreshSpec)

/-- ITS FALSE NEIGHBOUR: 'it returns false'. Refute it at one input. -/
def noticeFreshWrong : ChangeSpec := { name := "noticeFresh", fn := fun _ => fun
  | [d] => { results := [.lit (.bool false)], args := [d] }
  | _ => none }
def NoticeFreshWrongFalsely : Prop := noticeFreshRow.holds Try.pinned (OpenSpec.ofChange noticeFreshWrong)

/-- 'earshotlaw5.NoticeOnes': WHATEVER THE INPUT: true; the input reads as it did. -/
def noticeOnesSpec : ChangeSpec := { name := "noticeOnes", fn := fun _ => fun
  | [d1, d2] => { results := [.lit (.bool true)], args := [d1, d2] }
  | _ => none }
def noticeOnesRow : OpenClaim := { program := "ytkbebhkbijgbgaa", sum := "f12d021ce3263b6eedd6a6800119a7a773faa941e0d1957d5c3cd91edb52e219", func := "earshot/earshotlaw5.NoticeOnes", spec := "noticeOnes", apart := false }
def NoticeOnesSaid : Prop := noticeOnesRow.holds Try.pinned (OpenSpec.ofChange noticeOnesSpec)

/-- ITS FALSE NEIGHBOUR: 'it returns false'. Refute it at one input. -/
def noticeOnesWrong : ChangeSpec := { name := "noticeOnes", fn := fun _ => fun
  | [d1, d2] => { results := [.lit (.bool false)], args := [d1, d2] }
  | _ => none }
def NoticeOnesWrongFalsely : Prop := noticeOnesRow.holds Try.pinned (OpenSpec.ofChange noticeOnesWrong)

/-- 'earshotlaw5.NoticeRises': WHATEVER THE INPUT: true; the input reads as it did. -/
def noticeRisesSpec : ChangeSpec := { name := "noticeRises", fn := fun _ => fun
  | [d1, d2] => { results := [.lit (.bool true)], args := [d1, d2] }
  | _ => none }
def noticeRisesRow : OpenClaim := { program := "ytkbebhkbijgbgaa", sum := "f12d021ce3263b6eedd6a6800119a7a773faa941e0d1957d5c3cd91edb52e219", func := "earshot/earshotlaw5.NoticeRises", spec := "noticeRises", apart := false }
def NoticeRisesSaid : Prop := noticeRisesRow.holds Try.pinned (OpenSpec.ofChange noticeRisesSpec)

/-- ITS FALSE NEIGHBOUR: 'it returns false'. Refute it at one input. -/
def noticeRisesWrong : ChangeSpec := { name := "noticeRises", fn := fun _ => fun
  | [d1, d2] => { results := [.lit (.bool false)], args := [d1, d2] }
  | _ => none }
def NoticeRisesWrongFalsely : Prop := noticeRisesRow.holds Try.pinned (OpenSpec.ofChange noticeRisesWrong)

/-- 'earshotlaw5.NoticeOrder': WHATEVER THE INPUT: true; the input reads as it did. -/
def noticeOrderSpec : ChangeSpec := { name := "noticeOrder", fn := fun _ => fun
  | [d1, d2, d3] => { results := [.lit (.bool true)], args := [d1, d2, d3] }
  | _ => none }
def noticeOrderRow : OpenClaim := { program := "ytkbebhkbijgbgaa", sum := "f12d021ce3263b6eedd6a6800119a7a773faa941e0d1957d5c3cd91edb52e219", func := "earshot/earshotlaw5.NoticeOrder", spec := "noticeOrder", apart := false }
def NoticeOrderSaid : Prop := noticeOrderRow.holds Try.pinned (OpenSpec.ofChange noticeOrderSpec)

/-- ITS FALSE NEIGHBOUR: 'it returns false'. Refute it at one input. -/
def noticeOrderWrong : ChangeSpec := { name := "noticeOrder", fn := fun _ => fun
  | [d1, d2, d3] => { results := [.lit (.bool false)], args := [d1, d2, d3] }
  | _ => none }
def NoticeOrderWrongFalsely : Prop := noticeOrderRow.holds Try.pinned (OpenSpec.ofChange noticeOrderWrong)

/-- 'earshotlaw5.NoticeReplies': WHATEVER THE INPUT: true; the input reads as it did. -/
def noticeRepliesSpec : ChangeSpec := { name := "noticeReplies", fn := fun _ => fun
  | [d1, d2] => { results := [.lit (.bool true)], args := [d1, d2] }
  | _ => none }
def noticeRepliesRow : OpenClaim := { program := "ytkbebhkbijgbgaa", sum := "f12d021ce3263b6eedd6a6800119a7a773faa941e0d1957d5c3cd91edb52e219", func := "earshot/earshotlaw5.NoticeReplies", spec := "noticeReplies", apart := false }
def NoticeRepliesSaid : Prop := noticeRepliesRow.holds Try.pinned (OpenSpec.ofChange noticeRepliesSpec)

/-- ITS FALSE NEIGHBOUR: 'it returns false'. Refute it at one input. -/
def noticeRepliesWrong : ChangeSpec := { name := "noticeReplies", fn := fun _ => fun
  | [d1, d2] => { results := [.lit (.bool false)], args := [d1, d2] }
  | _ => none }
def NoticeRepliesWrongFalsely : Prop := noticeRepliesRow.holds Try.pinned (OpenSpec.ofChange noticeRepliesWrong)

/-- 'earshotlaw5.NoticeTwos': WHATEVER THE INPUT: true; the input reads as it did. -/
def noticeTwosSpec : ChangeSpec := { name := "noticeTwos", fn := fun _ => fun
  | [d1, d2] => { results := [.lit (.bool true)], args := [d1, d2] }
  | _ => none }
def noticeTwosRow : OpenClaim := { program := "ytkbebhkbijgbgaa", sum := "f12d021ce3263b6eedd6a6800119a7a773faa941e0d1957d5c3cd91edb52e219", func := "earshot/earshotlaw5.NoticeTwos", spec := "noticeTwos", apart := false }
def NoticeTwosSaid : Prop := noticeTwosRow.holds Try.pinned (OpenSpec.ofChange noticeTwosSpec)

/-- ITS FALSE NEIGHBOUR: 'it returns false'. Refute it at one input. -/
def noticeTwosWrong : ChangeSpec := { name := "noticeTwos", fn := fun _ => fun
  | [d1, d2] => { results := [.lit (.bool false)], args := [d1, d2] }
  | _ => none }
def NoticeTwosWrongFalsely : Prop := noticeTwosRow.holds Try.pinned (OpenSpec.ofChange noticeTwosWrong)

/- THE SECOND FORM. 'bulk': how many values and letters a reading holds, each counted each time it is reached (what is shared counts as often as it is met; a slice's spare places count too). A statement '..UptoSaid' is the law's where the arguments, and the package variables that the reading takes, are together of bulk at most 1048576: NARROWER than '..Said'. Prove '..Said' where nothing that the law and all that it calls make is longer than what came in: it says more and counts as full. Else prove '..UptoSaid'. A law counts once. -/
mutual
def uptoBulk {H : Type} : DataW H → Nat
  | .lit (.string bytes) => bytes.length + 1
  | .lit _ => 1
  | .nil => 1
  | .ptr d => uptoBulk d + 1
  | .slice elems spare => uptoBulkAll elems + uptoBulkAll spare + 1
  | .agg parts => uptoBulkAll parts + 1
  | .iface _ d => uptoBulk d + 1
  | .map entries => uptoBulkEntries entries + 1
  | .held _ => 1
def uptoBulkAll {H : Type} : List (DataW H) → Nat
  | [] => 0
  | d :: r => uptoBulk d + uptoBulkAll r
def uptoBulkEntries {H : Type} : List (Lit × DataW H) → Nat
  | [] => 0
  | x :: r => uptoBulkEntry x + uptoBulkEntries r
def uptoBulkEntry {H : Type} : Lit × DataW H → Nat
  | (.string bytes, d) => bytes.length + uptoBulk d + 1
  | (_, d) => uptoBulk d + 1
 end
def uptoSmall : (H : Type) → List (DataW H) → Bool := fun _ ds => decide (uptoBulkAll ds ≤ 1048576)
def OpenSpec.upto (s : _root_.Go.ChangeSpec) : _root_.Go.OpenSpec := { _root_.Go.OpenSpec.ofChange s with cond := some uptoSmall }

/-- 'earshotlaw5.NoticeFresh', WHERE WHAT IT READS IS OF BULK AT MOST 1048576: true; the input reads as it did. -/
def noticeFreshUptoRow : OpenClaim := { program := "ytkbebhkbijgbgaa", sum := "f12d021ce3263b6eedd6a6800119a7a773faa941e0d1957d5c3cd91edb52e219", func := "earshot/earshotlaw5.NoticeFresh", spec := "noticeFresh", apart := false, narrowed := true }
def NoticeFreshUptoSaid : Prop := noticeFreshUptoRow.holds Try.pinned (OpenSpec.upto noticeFreshSpec)

/-- 'earshotlaw5.NoticeOnes', WHERE WHAT IT READS IS OF BULK AT MOST 1048576: true; the input reads as it did. -/
def noticeOnesUptoRow : OpenClaim := { program := "ytkbebhkbijgbgaa", sum := "f12d021ce3263b6eedd6a6800119a7a773faa941e0d1957d5c3cd91edb52e219", func := "earshot/earshotlaw5.NoticeOnes", spec := "noticeOnes", apart := false, narrowed := true }
def NoticeOnesUptoSaid : Prop := noticeOnesUptoRow.holds Try.pinned (OpenSpec.upto noticeOnesSpec)

/-- 'earshotlaw5.NoticeRises', WHERE WHAT IT READS IS OF BULK AT MOST 1048576: true; the input reads as it did. -/
def noticeRisesUptoRow : OpenClaim := { program := "ytkbebhkbijgbgaa", sum := "f12d021ce3263b6eedd6a6800119a7a773faa941e0d1957d5c3cd91edb52e219", func := "earshot/earshotlaw5.NoticeRises", spec := "noticeRises", apart := false, narrowed := true }
def NoticeRisesUptoSaid : Prop := noticeRisesUptoRow.holds Try.pinned (OpenSpec.upto noticeRisesSpec)

/-- 'earshotlaw5.NoticeOrder', WHERE WHAT IT READS IS OF BULK AT MOST 1048576: true; the input reads as it did. -/
def noticeOrderUptoRow : OpenClaim := { program := "ytkbebhkbijgbgaa", sum := "f12d021ce3263b6eedd6a6800119a7a773faa941e0d1957d5c3cd91edb52e219", func := "earshot/earshotlaw5.NoticeOrder", spec := "noticeOrder", apart := false, narrowed := true }
def NoticeOrderUptoSaid : Prop := noticeOrderUptoRow.holds Try.pinned (OpenSpec.upto noticeOrderSpec)

/-- 'earshotlaw5.NoticeReplies', WHERE WHAT IT READS IS OF BULK AT MOST 1048576: true; the input reads as it did. -/
def noticeRepliesUptoRow : OpenClaim := { program := "ytkbebhkbijgbgaa", sum := "f12d021ce3263b6eedd6a6800119a7a773faa941e0d1957d5c3cd91edb52e219", func := "earshot/earshotlaw5.NoticeReplies", spec := "noticeReplies", apart := false, narrowed := true }
def NoticeRepliesUptoSaid : Prop := noticeRepliesUptoRow.holds Try.pinned (OpenSpec.upto noticeRepliesSpec)

/-- 'earshotlaw5.NoticeTwos', WHERE WHAT IT READS IS OF BULK AT MOST 1048576: true; the input reads as it did. -/
def noticeTwosUptoRow : OpenClaim := { program := "ytkbebhkbijgbgaa", sum := "f12d021ce3263b6eedd6a6800119a7a773faa941e0d1957d5c3cd91edb52e219", func := "earshot/earshotlaw5.NoticeTwos", spec := "noticeTwos", apart := false, narrowed := true }
def NoticeTwosUptoSaid : Prop := noticeTwosUptoRow.holds Try.pinned (OpenSpec.upto noticeTwosSpec)

end Rows
end Go.Proofs.Ytkbebhkbijgbgaa
