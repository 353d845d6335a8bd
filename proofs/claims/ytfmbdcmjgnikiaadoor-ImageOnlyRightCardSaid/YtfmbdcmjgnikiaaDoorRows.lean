/-
  NARROWER THAN 'FOR EVERY INPUT', by the rows' own cells (each row's printed sentence says how): ImageMatchesReference: laid · ImageInverse: laid · ImageKeeps: laid · ImageNotices: laid · ImageSizes: laid · ImageLoads: laid · ImageOnlyRight: laid.
  DERIVED. THE GIVEN ROWS OF THIS SEAT. 7 by the template 'for every input the law returns true; each argument reads behind the call as it read before'; 0 by the template 'total and deterministic' (their statements: YtfmbdcmjgnikiaaDoorTotals.lean).
  GIVEN WITH THE SEED: the statements are not yours to turn. If you find one false, say at which input.
  Laid BY PROGRAM, IN A SANDBOX (cutbox-rows.mjs): the forced cells as the released guide's own fill.sh prints them over the translation 01e97a4b9cd915b6… (all of the seat's roots in one cut). By AI agents, Wed Nov 11 2026. No macro, syntax, notation, axiom, sorry.
-/
import Derived.Test.YtfmbdcmjgnikiaaDoorChecked
import GoSem.PinnedTables
import GoSem.Claim
import GoSem.ClaimJoined
import GoSem.ClaimMapViews
import Derived.JoinedTies
import Derived.KernelRfl
namespace Go.Proofs.YtfmbdcmjgnikiaaDoor
/- THE CELL 'sum', in the pinned program and in every row, IS THE sha256 OF THE DUMP (.gsa) THAT YtfmbdcmjgnikiaaDoorProg.lean LOADS. Nothing in Lean hashes anything: it is a label: what it is worth is what the hold of that sum in a sandbox is worth. -/
noncomputable def Tryd.pinned : Pinned := { name := "ytfmbdcmjgnikiaadoor", sum := "01e97a4b9cd915b6c89c066e2b6369e51f5b15e8781497e835ba8006eb4370a6", checked := Tryd.checked }
namespace Rows
def none {H : Type} : Left H := { results := [], args := [] }

/- WHAT THE LISTED PACKAGE-LEVEL VARIABLES READ AS WHEN THE CALL BEGINS. Each datum BY PROGRAM (the guide's laid-datum.mjs) off the statement by which the dump's own 'gosem.cut.vars' lays the variable. In a bare row this is a premise. The card (YtfmbdcmjgnikiaaDoorCards.lean) ties it to the program's text. -/
def laid_unicode_utf8_acceptRanges {H : Type} : DataW H := .agg [.agg [.lit (.int .u8 128), .lit (.int .u8 191)], .agg [.lit (.int .u8 160), .lit (.int .u8 191)], .agg [.lit (.int .u8 128), .lit (.int .u8 159)], .agg [.lit (.int .u8 144), .lit (.int .u8 191)], .agg [.lit (.int .u8 128), .lit (.int .u8 143)], .agg [.lit (.int .u8 0), .lit (.int .u8 0)], .agg [.lit (.int .u8 0), .lit (.int .u8 0)], .agg [.lit (.int .u8 0), .lit (.int .u8 0)], .agg [.lit (.int .u8 0), .lit (.int .u8 0)], .agg [.lit (.int .u8 0), .lit (.int .u8 0)], .agg [.lit (.int .u8 0), .lit (.int .u8 0)], .agg [.lit (.int .u8 0), .lit (.int .u8 0)], .agg [.lit (.int .u8 0), .lit (.int .u8 0)], .agg [.lit (.int .u8 0), .lit (.int .u8 0)], .agg [.lit (.int .u8 0), .lit (.int .u8 0)], .agg [.lit (.int .u8 0), .lit (.int .u8 0)]]
/-- One of Go's own tables, pinned by name: the form's constant. -/
def laid_unicode_utf8_first : DataW Unit := Go.Pinned.utf8First

/-- 'slotmeshlaw36.ImageMatchesReference': WHATEVER THE INPUT: true; the input reads as it did. -/
def imageMatchesReferenceSpec : ChangeSpec := { name := "imageMatchesReference", fn := fun _ => fun
  | [d1, d2, d3, d4, d5, d6, d7, d8] => { results := [.lit (.bool true)], args := [d1, d2, d3, d4, d5, d6, d7, d8] }
  | _ => none }
def imageMatchesReferenceRow : OpenClaim := { program := "ytfmbdcmjgnikiaadoor", sum := "01e97a4b9cd915b6c89c066e2b6369e51f5b15e8781497e835ba8006eb4370a6", func := "slotmesh/slotmeshlaw36.ImageMatchesReference", spec := "imageMatchesReference", unfollowed := true, recurses := true, named := ["unicode/utf8.first", "unicode/utf8.acceptRanges"], apart := false, laid := [("unicode/utf8.acceptRanges", laid_unicode_utf8_acceptRanges), ("unicode/utf8.first", laid_unicode_utf8_first)] }
def ImageMatchesReferenceSaid : Prop := imageMatchesReferenceRow.holds Tryd.pinned (OpenSpec.ofChange imageMatchesReferenceSpec)

/-- ITS FALSE NEIGHBOUR: 'it returns false'. Refute it at one input. -/
def imageMatchesReferenceWrong : ChangeSpec := { name := "imageMatchesReference", fn := fun _ => fun
  | [d1, d2, d3, d4, d5, d6, d7, d8] => { results := [.lit (.bool false)], args := [d1, d2, d3, d4, d5, d6, d7, d8] }
  | _ => none }
def ImageMatchesReferenceWrongFalsely : Prop := imageMatchesReferenceRow.holds Tryd.pinned (OpenSpec.ofChange imageMatchesReferenceWrong)

/-- 'slotmeshlaw36.ImageInverse': WHATEVER THE INPUT: true; the input reads as it did. -/
def imageInverseSpec : ChangeSpec := { name := "imageInverse", fn := fun _ => fun
  | [d1, d2, d3] => { results := [.lit (.bool true)], args := [d1, d2, d3] }
  | _ => none }
def imageInverseRow : OpenClaim := { program := "ytfmbdcmjgnikiaadoor", sum := "01e97a4b9cd915b6c89c066e2b6369e51f5b15e8781497e835ba8006eb4370a6", func := "slotmesh/slotmeshlaw36.ImageInverse", spec := "imageInverse", unfollowed := true, recurses := true, named := ["unicode/utf8.first", "unicode/utf8.acceptRanges"], apart := false, laid := [("unicode/utf8.acceptRanges", laid_unicode_utf8_acceptRanges), ("unicode/utf8.first", laid_unicode_utf8_first)] }
def ImageInverseSaid : Prop := imageInverseRow.holds Tryd.pinned (OpenSpec.ofChange imageInverseSpec)

/-- ITS FALSE NEIGHBOUR: 'it returns false'. Refute it at one input. -/
def imageInverseWrong : ChangeSpec := { name := "imageInverse", fn := fun _ => fun
  | [d1, d2, d3] => { results := [.lit (.bool false)], args := [d1, d2, d3] }
  | _ => none }
def ImageInverseWrongFalsely : Prop := imageInverseRow.holds Tryd.pinned (OpenSpec.ofChange imageInverseWrong)

/-- 'slotmeshlaw36.ImageKeeps': WHATEVER THE INPUT: true; the input reads as it did. -/
def imageKeepsSpec : ChangeSpec := { name := "imageKeeps", fn := fun _ => fun
  | [d1, d2, d3] => { results := [.lit (.bool true)], args := [d1, d2, d3] }
  | _ => none }
def imageKeepsRow : OpenClaim := { program := "ytfmbdcmjgnikiaadoor", sum := "01e97a4b9cd915b6c89c066e2b6369e51f5b15e8781497e835ba8006eb4370a6", func := "slotmesh/slotmeshlaw36.ImageKeeps", spec := "imageKeeps", unfollowed := true, recurses := true, named := ["unicode/utf8.first", "unicode/utf8.acceptRanges"], apart := false, laid := [("unicode/utf8.acceptRanges", laid_unicode_utf8_acceptRanges), ("unicode/utf8.first", laid_unicode_utf8_first)] }
def ImageKeepsSaid : Prop := imageKeepsRow.holds Tryd.pinned (OpenSpec.ofChange imageKeepsSpec)

/-- ITS FALSE NEIGHBOUR: 'it returns false'. Refute it at one input. -/
def imageKeepsWrong : ChangeSpec := { name := "imageKeeps", fn := fun _ => fun
  | [d1, d2, d3] => { results := [.lit (.bool false)], args := [d1, d2, d3] }
  | _ => none }
def ImageKeepsWrongFalsely : Prop := imageKeepsRow.holds Tryd.pinned (OpenSpec.ofChange imageKeepsWrong)

/-- 'slotmeshlaw36.ImageNotices': WHATEVER THE INPUT: true; the input reads as it did. -/
def imageNoticesSpec : ChangeSpec := { name := "imageNotices", fn := fun _ => fun
  | [d1, d2, d3, d4, d5] => { results := [.lit (.bool true)], args := [d1, d2, d3, d4, d5] }
  | _ => none }
def imageNoticesRow : OpenClaim := { program := "ytfmbdcmjgnikiaadoor", sum := "01e97a4b9cd915b6c89c066e2b6369e51f5b15e8781497e835ba8006eb4370a6", func := "slotmesh/slotmeshlaw36.ImageNotices", spec := "imageNotices", unfollowed := true, recurses := true, named := ["unicode/utf8.first", "unicode/utf8.acceptRanges"], apart := false, laid := [("unicode/utf8.acceptRanges", laid_unicode_utf8_acceptRanges), ("unicode/utf8.first", laid_unicode_utf8_first)] }
def ImageNoticesSaid : Prop := imageNoticesRow.holds Tryd.pinned (OpenSpec.ofChange imageNoticesSpec)

/-- ITS FALSE NEIGHBOUR: 'it returns false'. Refute it at one input. -/
def imageNoticesWrong : ChangeSpec := { name := "imageNotices", fn := fun _ => fun
  | [d1, d2, d3, d4, d5] => { results := [.lit (.bool false)], args := [d1, d2, d3, d4, d5] }
  | _ => none }
def ImageNoticesWrongFalsely : Prop := imageNoticesRow.holds Tryd.pinned (OpenSpec.ofChange imageNoticesWrong)

/-- 'slotmeshlaw36.ImageSizes': WHATEVER THE INPUT: true; the input reads as it did. -/
def imageSizesSpec : ChangeSpec := { name := "imageSizes", fn := fun _ => fun
  | [d1, d2] => { results := [.lit (.bool true)], args := [d1, d2] }
  | _ => none }
def imageSizesRow : OpenClaim := { program := "ytfmbdcmjgnikiaadoor", sum := "01e97a4b9cd915b6c89c066e2b6369e51f5b15e8781497e835ba8006eb4370a6", func := "slotmesh/slotmeshlaw36.ImageSizes", spec := "imageSizes", unfollowed := true, recurses := true, named := ["unicode/utf8.first", "unicode/utf8.acceptRanges"], apart := false, laid := [("unicode/utf8.acceptRanges", laid_unicode_utf8_acceptRanges), ("unicode/utf8.first", laid_unicode_utf8_first)] }
def ImageSizesSaid : Prop := imageSizesRow.holds Tryd.pinned (OpenSpec.ofChange imageSizesSpec)

/-- ITS FALSE NEIGHBOUR: 'it returns false'. Refute it at one input. -/
def imageSizesWrong : ChangeSpec := { name := "imageSizes", fn := fun _ => fun
  | [d1, d2] => { results := [.lit (.bool false)], args := [d1, d2] }
  | _ => none }
def ImageSizesWrongFalsely : Prop := imageSizesRow.holds Tryd.pinned (OpenSpec.ofChange imageSizesWrong)

/-- 'slotmeshlaw36.ImageLoads': WHATEVER THE INPUT: true; the input reads as it did. -/
def imageLoadsSpec : ChangeSpec := { name := "imageLoads", fn := fun _ => fun
  | [d1, d2, d3] => { results := [.lit (.bool true)], args := [d1, d2, d3] }
  | _ => none }
def imageLoadsRow : OpenClaim := { program := "ytfmbdcmjgnikiaadoor", sum := "01e97a4b9cd915b6c89c066e2b6369e51f5b15e8781497e835ba8006eb4370a6", func := "slotmesh/slotmeshlaw36.ImageLoads", spec := "imageLoads", unfollowed := true, recurses := true, named := ["unicode/utf8.first", "unicode/utf8.acceptRanges"], apart := false, laid := [("unicode/utf8.acceptRanges", laid_unicode_utf8_acceptRanges), ("unicode/utf8.first", laid_unicode_utf8_first)] }
def ImageLoadsSaid : Prop := imageLoadsRow.holds Tryd.pinned (OpenSpec.ofChange imageLoadsSpec)

/-- ITS FALSE NEIGHBOUR: 'it returns false'. Refute it at one input. -/
def imageLoadsWrong : ChangeSpec := { name := "imageLoads", fn := fun _ => fun
  | [d1, d2, d3] => { results := [.lit (.bool false)], args := [d1, d2, d3] }
  | _ => none }
def ImageLoadsWrongFalsely : Prop := imageLoadsRow.holds Tryd.pinned (OpenSpec.ofChange imageLoadsWrong)

/-- 'slotmeshlaw36.ImageOnlyRight': WHATEVER THE INPUT: true; the input reads as it did. -/
def imageOnlyRightSpec : ChangeSpec := { name := "imageOnlyRight", fn := fun _ => fun
  | [d1, d2, d3, d4, d5, d6] => { results := [.lit (.bool true)], args := [d1, d2, d3, d4, d5, d6] }
  | _ => none }
def imageOnlyRightRow : OpenClaim := { program := "ytfmbdcmjgnikiaadoor", sum := "01e97a4b9cd915b6c89c066e2b6369e51f5b15e8781497e835ba8006eb4370a6", func := "slotmesh/slotmeshlaw36.ImageOnlyRight", spec := "imageOnlyRight", unfollowed := true, recurses := true, named := ["unicode/utf8.first", "unicode/utf8.acceptRanges"], apart := false, laid := [("unicode/utf8.acceptRanges", laid_unicode_utf8_acceptRanges), ("unicode/utf8.first", laid_unicode_utf8_first)] }
def ImageOnlyRightSaid : Prop := imageOnlyRightRow.holds Tryd.pinned (OpenSpec.ofChange imageOnlyRightSpec)

/-- ITS FALSE NEIGHBOUR: 'it returns false'. Refute it at one input. -/
def imageOnlyRightWrong : ChangeSpec := { name := "imageOnlyRight", fn := fun _ => fun
  | [d1, d2, d3, d4, d5, d6] => { results := [.lit (.bool false)], args := [d1, d2, d3, d4, d5, d6] }
  | _ => none }
def ImageOnlyRightWrongFalsely : Prop := imageOnlyRightRow.holds Tryd.pinned (OpenSpec.ofChange imageOnlyRightWrong)

/- THE SECOND FORM. 'bulk': how many values and letters a reading holds, each counted each time it is reached (what is shared counts as often as it is met; a slice's spare places count too). A statement '..UptoSaid' is the law's where the arguments, and the package variables that the reading takes, are together of bulk at most 1048576: NARROWER than '..Said'. Prove '..Said' where nothing that the law and all that it calls make is longer than what came in: it says more and counts as full. Else prove '..UptoSaid'. A law counts once. -/
mutual
def uptoBulk {H : Type} : DataW H → Nat
  | .lit (.string bytes) => bytes.length + 1
  | .lit _ => 1
  | .nil => 1
  | .ptr d => uptoBulk d + 1
  | .slice elems spare => uptoBulkAll elems + uptoBulkAll spare + 1
  | .agg parts => uptoBulkAll parts + 1
  | .iface _ d => uptoBulk d + 1
  | .map entries => uptoBulkEntries entries + 1
  | .held _ => 1
def uptoBulkAll {H : Type} : List (DataW H) → Nat
  | [] => 0
  | d :: r => uptoBulk d + uptoBulkAll r
def uptoBulkEntries {H : Type} : List (Lit × DataW H) → Nat
  | [] => 0
  | x :: r => uptoBulkEntry x + uptoBulkEntries r
def uptoBulkEntry {H : Type} : Lit × DataW H → Nat
  | (.string bytes, d) => bytes.length + uptoBulk d + 1
  | (_, d) => uptoBulk d + 1
 end
def uptoSmall : (H : Type) → List (DataW H) → Bool := fun _ ds => decide (uptoBulkAll ds ≤ 1048576)
def OpenSpec.upto (s : _root_.Go.ChangeSpec) : _root_.Go.OpenSpec := { _root_.Go.OpenSpec.ofChange s with cond := some uptoSmall }

/-- 'slotmeshlaw36.ImageMatchesReference', WHERE WHAT IT READS IS OF BULK AT MOST 1048576: true; the input reads as it did. -/
def imageMatchesReferenceUptoRow : OpenClaim := { program := "ytfmbdcmjgnikiaadoor", sum := "01e97a4b9cd915b6c89c066e2b6369e51f5b15e8781497e835ba8006eb4370a6", func := "slotmesh/slotmeshlaw36.ImageMatchesReference", spec := "imageMatchesReference", unfollowed := true, recurses := true, named := ["unicode/utf8.first", "unicode/utf8.acceptRanges"], apart := false, laid := [("unicode/utf8.acceptRanges", laid_unicode_utf8_acceptRanges), ("unicode/utf8.first", laid_unicode_utf8_first)], narrowed := true }
def ImageMatchesReferenceUptoSaid : Prop := imageMatchesReferenceUptoRow.holds Tryd.pinned (OpenSpec.upto imageMatchesReferenceSpec)

/-- 'slotmeshlaw36.ImageInverse', WHERE WHAT IT READS IS OF BULK AT MOST 1048576: true; the input reads as it did. -/
def imageInverseUptoRow : OpenClaim := { program := "ytfmbdcmjgnikiaadoor", sum := "01e97a4b9cd915b6c89c066e2b6369e51f5b15e8781497e835ba8006eb4370a6", func := "slotmesh/slotmeshlaw36.ImageInverse", spec := "imageInverse", unfollowed := true, recurses := true, named := ["unicode/utf8.first", "unicode/utf8.acceptRanges"], apart := false, laid := [("unicode/utf8.acceptRanges", laid_unicode_utf8_acceptRanges), ("unicode/utf8.first", laid_unicode_utf8_first)], narrowed := true }
def ImageInverseUptoSaid : Prop := imageInverseUptoRow.holds Tryd.pinned (OpenSpec.upto imageInverseSpec)

/-- 'slotmeshlaw36.ImageKeeps', WHERE WHAT IT READS IS OF BULK AT MOST 1048576: true; the input reads as it did. -/
def imageKeepsUptoRow : OpenClaim := { program := "ytfmbdcmjgnikiaadoor", sum := "01e97a4b9cd915b6c89c066e2b6369e51f5b15e8781497e835ba8006eb4370a6", func := "slotmesh/slotmeshlaw36.ImageKeeps", spec := "imageKeeps", unfollowed := true, recurses := true, named := ["unicode/utf8.first", "unicode/utf8.acceptRanges"], apart := false, laid := [("unicode/utf8.acceptRanges", laid_unicode_utf8_acceptRanges), ("unicode/utf8.first", laid_unicode_utf8_first)], narrowed := true }
def ImageKeepsUptoSaid : Prop := imageKeepsUptoRow.holds Tryd.pinned (OpenSpec.upto imageKeepsSpec)

/-- 'slotmeshlaw36.ImageNotices', WHERE WHAT IT READS IS OF BULK AT MOST 1048576: true; the input reads as it did. -/
def imageNoticesUptoRow : OpenClaim := { program := "ytfmbdcmjgnikiaadoor", sum := "01e97a4b9cd915b6c89c066e2b6369e51f5b15e8781497e835ba8006eb4370a6", func := "slotmesh/slotmeshlaw36.ImageNotices", spec := "imageNotices", unfollowed := true, recurses := true, named := ["unicode/utf8.first", "unicode/utf8.acceptRanges"], apart := false, laid := [("unicode/utf8.acceptRanges", laid_unicode_utf8_acceptRanges), ("unicode/utf8.first", laid_unicode_utf8_first)], narrowed := true }
def ImageNoticesUptoSaid : Prop := imageNoticesUptoRow.holds Tryd.pinned (OpenSpec.upto imageNoticesSpec)

/-- 'slotmeshlaw36.ImageSizes', WHERE WHAT IT READS IS OF BULK AT MOST 1048576: true; the input reads as it did. -/
def imageSizesUptoRow : OpenClaim := { program := "ytfmbdcmjgnikiaadoor", sum := "01e97a4b9cd915b6c89c066e2b6369e51f5b15e8781497e835ba8006eb4370a6", func := "slotmesh/slotmeshlaw36.ImageSizes", spec := "imageSizes", unfollowed := true, recurses := true, named := ["unicode/utf8.first", "unicode/utf8.acceptRanges"], apart := false, laid := [("unicode/utf8.acceptRanges", laid_unicode_utf8_acceptRanges), ("unicode/utf8.first", laid_unicode_utf8_first)], narrowed := true }
def ImageSizesUptoSaid : Prop := imageSizesUptoRow.holds Tryd.pinned (OpenSpec.upto imageSizesSpec)

/-- 'slotmeshlaw36.ImageLoads', WHERE WHAT IT READS IS OF BULK AT MOST 1048576: true; the input reads as it did. -/
def imageLoadsUptoRow : OpenClaim := { program := "ytfmbdcmjgnikiaadoor", sum := "01e97a4b9cd915b6c89c066e2b6369e51f5b15e8781497e835ba8006eb4370a6", func := "slotmesh/slotmeshlaw36.ImageLoads", spec := "imageLoads", unfollowed := true, recurses := true, named := ["unicode/utf8.first", "unicode/utf8.acceptRanges"], apart := false, laid := [("unicode/utf8.acceptRanges", laid_unicode_utf8_acceptRanges), ("unicode/utf8.first", laid_unicode_utf8_first)], narrowed := true }
def ImageLoadsUptoSaid : Prop := imageLoadsUptoRow.holds Tryd.pinned (OpenSpec.upto imageLoadsSpec)

/-- 'slotmeshlaw36.ImageOnlyRight', WHERE WHAT IT READS IS OF BULK AT MOST 1048576: true; the input reads as it did. -/
def imageOnlyRightUptoRow : OpenClaim := { program := "ytfmbdcmjgnikiaadoor", sum := "01e97a4b9cd915b6c89c066e2b6369e51f5b15e8781497e835ba8006eb4370a6", func := "slotmesh/slotmeshlaw36.ImageOnlyRight", spec := "imageOnlyRight", unfollowed := true, recurses := true, named := ["unicode/utf8.first", "unicode/utf8.acceptRanges"], apart := false, laid := [("unicode/utf8.acceptRanges", laid_unicode_utf8_acceptRanges), ("unicode/utf8.first", laid_unicode_utf8_first)], narrowed := true }
def ImageOnlyRightUptoSaid : Prop := imageOnlyRightUptoRow.holds Tryd.pinned (OpenSpec.upto imageOnlyRightSpec)

end Rows
end Go.Proofs.YtfmbdcmjgnikiaaDoor
