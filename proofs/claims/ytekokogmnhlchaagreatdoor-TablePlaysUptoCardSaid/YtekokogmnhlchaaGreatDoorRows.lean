/-
  NARROWER THAN 'FOR EVERY INPUT', by the rows' own cells (each row's printed sentence says how): TableOrders: laid · TableMany: laid · TableApart: laid · TableBack: laid · TableCount: laid · TableIndexes: laid · TablePlays: laid · TxnRuns: laid · TxnReads: laid · TxnAll: laid · TxnFold: laid · TxnRight: laid.
  DERIVED. THE GIVEN ROWS OF THIS SEAT. 12 by the template 'for every input the law returns true; each argument reads behind the call as it read before'; 0 by the template 'total and deterministic' (their statements: YtekokogmnhlchaaGreatDoorTotals.lean).
  GIVEN WITH THE SEED: the statements are not yours to turn. If you find one false, say at which input.
  Laid BY PROGRAM, IN A SANDBOX (cutbox-rows.mjs): the forced cells as the released guide's own fill.sh prints them over the translation ed4d04f51c6f934c… (all of the seat's roots in one cut). By AI agents, Wed Nov 11 2026. No macro, syntax, notation, axiom, sorry.
-/
import Derived.Test.YtekokogmnhlchaaGreatDoorChecked
import GoSem.PinnedTables
import GoSem.Claim
import GoSem.ClaimJoined
import GoSem.ClaimMapViews
import Derived.JoinedTies
import Derived.KernelRfl
namespace Go.Proofs.YtekokogmnhlchaaGreatDoor
/- THE CELL 'sum', in the pinned program and in every row, IS THE sha256 OF THE DUMP (.gsa) THAT YtekokogmnhlchaaGreatDoorProg.lean LOADS. Nothing in Lean hashes anything: it is a label: what it is worth is what the hold of that sum in a sandbox is worth. -/
noncomputable def Tryz.pinned : Pinned := { name := "ytekokogmnhlchaagreatdoor", sum := "ed4d04f51c6f934ccf8a338b3b95398a7bba1217695aaae95f9d06e3cd4ed7f7", checked := Tryz.checked }
namespace Rows
def none {H : Type} : Left H := { results := [], args := [] }

/- WHAT THE LISTED PACKAGE-LEVEL VARIABLES READ AS WHEN THE CALL BEGINS. Each datum BY PROGRAM (the guide's laid-datum.mjs) off the statement by which the dump's own 'gosem.cut.vars' lays the variable. In a bare row this is a premise. The card (YtekokogmnhlchaaGreatDoorCards.lean) ties it to the program's text. -/
def laid_unicode_utf8_acceptRanges {H : Type} : DataW H := .agg [.agg [.lit (.int .u8 128), .lit (.int .u8 191)], .agg [.lit (.int .u8 160), .lit (.int .u8 191)], .agg [.lit (.int .u8 128), .lit (.int .u8 159)], .agg [.lit (.int .u8 144), .lit (.int .u8 191)], .agg [.lit (.int .u8 128), .lit (.int .u8 143)], .agg [.lit (.int .u8 0), .lit (.int .u8 0)], .agg [.lit (.int .u8 0), .lit (.int .u8 0)], .agg [.lit (.int .u8 0), .lit (.int .u8 0)], .agg [.lit (.int .u8 0), .lit (.int .u8 0)], .agg [.lit (.int .u8 0), .lit (.int .u8 0)], .agg [.lit (.int .u8 0), .lit (.int .u8 0)], .agg [.lit (.int .u8 0), .lit (.int .u8 0)], .agg [.lit (.int .u8 0), .lit (.int .u8 0)], .agg [.lit (.int .u8 0), .lit (.int .u8 0)], .agg [.lit (.int .u8 0), .lit (.int .u8 0)], .agg [.lit (.int .u8 0), .lit (.int .u8 0)]]
/-- One of Go's own tables, pinned by name: the form's constant. -/
def laid_unicode_utf8_first : DataW Unit := Go.Pinned.utf8First

/-- 'headlandlaw15.TableOrders': WHATEVER THE INPUT: true; the input reads as it did. -/
def tableOrdersSpec : ChangeSpec := { name := "tableOrders", fn := fun _ => fun
  | [d1, d2, d3, d4, d5] => { results := [.lit (.bool true)], args := [d1, d2, d3, d4, d5] }
  | _ => none }
def tableOrdersRow : OpenClaim := { program := "ytekokogmnhlchaagreatdoor", sum := "ed4d04f51c6f934ccf8a338b3b95398a7bba1217695aaae95f9d06e3cd4ed7f7", func := "headland/headlandlaw15.TableOrders", spec := "tableOrders", inPlace := ["internal/bytealg.Compare"], unfollowed := true, recurses := true, named := ["unicode/utf8.first", "unicode/utf8.acceptRanges"], apart := false, laid := [("unicode/utf8.acceptRanges", laid_unicode_utf8_acceptRanges), ("unicode/utf8.first", laid_unicode_utf8_first)] }
def TableOrdersSaid : Prop := tableOrdersRow.holds Tryz.pinned (OpenSpec.ofChange tableOrdersSpec)

/-- ITS FALSE NEIGHBOUR: 'it returns false'. Refute it at one input. -/
def tableOrdersWrong : ChangeSpec := { name := "tableOrders", fn := fun _ => fun
  | [d1, d2, d3, d4, d5] => { results := [.lit (.bool false)], args := [d1, d2, d3, d4, d5] }
  | _ => none }
def TableOrdersWrongFalsely : Prop := tableOrdersRow.holds Tryz.pinned (OpenSpec.ofChange tableOrdersWrong)

/-- 'headlandlaw15.TableMany': WHATEVER THE INPUT: true; the input reads as it did. -/
def tableManySpec : ChangeSpec := { name := "tableMany", fn := fun _ => fun
  | [d1, d2] => { results := [.lit (.bool true)], args := [d1, d2] }
  | _ => none }
def tableManyRow : OpenClaim := { program := "ytekokogmnhlchaagreatdoor", sum := "ed4d04f51c6f934ccf8a338b3b95398a7bba1217695aaae95f9d06e3cd4ed7f7", func := "headland/headlandlaw15.TableMany", spec := "tableMany", inPlace := ["internal/bytealg.Compare"], unfollowed := true, recurses := true, named := ["unicode/utf8.first", "unicode/utf8.acceptRanges"], apart := false, laid := [("unicode/utf8.acceptRanges", laid_unicode_utf8_acceptRanges), ("unicode/utf8.first", laid_unicode_utf8_first)] }
def TableManySaid : Prop := tableManyRow.holds Tryz.pinned (OpenSpec.ofChange tableManySpec)

/-- ITS FALSE NEIGHBOUR: 'it returns false'. Refute it at one input. -/
def tableManyWrong : ChangeSpec := { name := "tableMany", fn := fun _ => fun
  | [d1, d2] => { results := [.lit (.bool false)], args := [d1, d2] }
  | _ => none }
def TableManyWrongFalsely : Prop := tableManyRow.holds Tryz.pinned (OpenSpec.ofChange tableManyWrong)

/-- 'headlandlaw15.TableApart': WHATEVER THE INPUT: true; the input reads as it did. -/
def tableApartSpec : ChangeSpec := { name := "tableApart", fn := fun _ => fun
  | [d1, d2] => { results := [.lit (.bool true)], args := [d1, d2] }
  | _ => none }
def tableApartRow : OpenClaim := { program := "ytekokogmnhlchaagreatdoor", sum := "ed4d04f51c6f934ccf8a338b3b95398a7bba1217695aaae95f9d06e3cd4ed7f7", func := "headland/headlandlaw15.TableApart", spec := "tableApart", inPlace := ["internal/bytealg.Compare"], unfollowed := true, recurses := true, named := ["unicode/utf8.first", "unicode/utf8.acceptRanges"], apart := false, laid := [("unicode/utf8.acceptRanges", laid_unicode_utf8_acceptRanges), ("unicode/utf8.first", laid_unicode_utf8_first)] }
def TableApartSaid : Prop := tableApartRow.holds Tryz.pinned (OpenSpec.ofChange tableApartSpec)

/-- ITS FALSE NEIGHBOUR: 'it returns false'. Refute it at one input. -/
def tableApartWrong : ChangeSpec := { name := "tableApart", fn := fun _ => fun
  | [d1, d2] => { results := [.lit (.bool false)], args := [d1, d2] }
  | _ => none }
def TableApartWrongFalsely : Prop := tableApartRow.holds Tryz.pinned (OpenSpec.ofChange tableApartWrong)

/-- 'headlandlaw15.TableBack': WHATEVER THE INPUT: true; the input reads as it did. -/
def tableBackSpec : ChangeSpec := { name := "tableBack", fn := fun _ => fun
  | [d1, d2] => { results := [.lit (.bool true)], args := [d1, d2] }
  | _ => none }
def tableBackRow : OpenClaim := { program := "ytekokogmnhlchaagreatdoor", sum := "ed4d04f51c6f934ccf8a338b3b95398a7bba1217695aaae95f9d06e3cd4ed7f7", func := "headland/headlandlaw15.TableBack", spec := "tableBack", inPlace := ["internal/bytealg.Compare"], unfollowed := true, recurses := true, named := ["unicode/utf8.first", "unicode/utf8.acceptRanges"], apart := false, laid := [("unicode/utf8.acceptRanges", laid_unicode_utf8_acceptRanges), ("unicode/utf8.first", laid_unicode_utf8_first)] }
def TableBackSaid : Prop := tableBackRow.holds Tryz.pinned (OpenSpec.ofChange tableBackSpec)

/-- ITS FALSE NEIGHBOUR: 'it returns false'. Refute it at one input. -/
def tableBackWrong : ChangeSpec := { name := "tableBack", fn := fun _ => fun
  | [d1, d2] => { results := [.lit (.bool false)], args := [d1, d2] }
  | _ => none }
def TableBackWrongFalsely : Prop := tableBackRow.holds Tryz.pinned (OpenSpec.ofChange tableBackWrong)

/-- 'headlandlaw15.TableCount': WHATEVER THE INPUT: true; the input reads as it did. -/
def tableCountSpec : ChangeSpec := { name := "tableCount", fn := fun _ => fun
  | [d] => { results := [.lit (.bool true)], args := [d] }
  | _ => none }
def tableCountRow : OpenClaim := { program := "ytekokogmnhlchaagreatdoor", sum := "ed4d04f51c6f934ccf8a338b3b95398a7bba1217695aaae95f9d06e3cd4ed7f7", func := "headland/headlandlaw15.TableCount", spec := "tableCount", inPlace := ["internal/bytealg.Compare"], unfollowed := true, recurses := true, named := ["unicode/utf8.first", "unicode/utf8.acceptRanges"], apart := false, laid := [("unicode/utf8.acceptRanges", laid_unicode_utf8_acceptRanges), ("unicode/utf8.first", laid_unicode_utf8_first)] }
def TableCountSaid : Prop := tableCountRow.holds Tryz.pinned (OpenSpec.ofChange tableCountSpec)

/-- ITS FALSE NEIGHBOUR: 'it returns false'. Refute it at one input. -/
def tableCountWrong : ChangeSpec := { name := "tableCount", fn := fun _ => fun
  | [d] => { results := [.lit (.bool false)], args := [d] }
  | _ => none }
def TableCountWrongFalsely : Prop := tableCountRow.holds Tryz.pinned (OpenSpec.ofChange tableCountWrong)

/-- 'headlandlaw15.TableIndexes': WHATEVER THE INPUT: true; the input reads as it did. -/
def tableIndexesSpec : ChangeSpec := { name := "tableIndexes", fn := fun _ => fun
  | [d] => { results := [.lit (.bool true)], args := [d] }
  | _ => none }
def tableIndexesRow : OpenClaim := { program := "ytekokogmnhlchaagreatdoor", sum := "ed4d04f51c6f934ccf8a338b3b95398a7bba1217695aaae95f9d06e3cd4ed7f7", func := "headland/headlandlaw15.TableIndexes", spec := "tableIndexes", inPlace := ["internal/bytealg.Compare"], unfollowed := true, recurses := true, named := ["unicode/utf8.first", "unicode/utf8.acceptRanges"], apart := false, laid := [("unicode/utf8.acceptRanges", laid_unicode_utf8_acceptRanges), ("unicode/utf8.first", laid_unicode_utf8_first)] }
def TableIndexesSaid : Prop := tableIndexesRow.holds Tryz.pinned (OpenSpec.ofChange tableIndexesSpec)

/-- ITS FALSE NEIGHBOUR: 'it returns false'. Refute it at one input. -/
def tableIndexesWrong : ChangeSpec := { name := "tableIndexes", fn := fun _ => fun
  | [d] => { results := [.lit (.bool false)], args := [d] }
  | _ => none }
def TableIndexesWrongFalsely : Prop := tableIndexesRow.holds Tryz.pinned (OpenSpec.ofChange tableIndexesWrong)

/-- 'headlandlaw15.TablePlays': WHATEVER THE INPUT: true; the input reads as it did. -/
def tablePlaysSpec : ChangeSpec := { name := "tablePlays", fn := fun _ => fun
  | [d] => { results := [.lit (.bool true)], args := [d] }
  | _ => none }
def tablePlaysRow : OpenClaim := { program := "ytekokogmnhlchaagreatdoor", sum := "ed4d04f51c6f934ccf8a338b3b95398a7bba1217695aaae95f9d06e3cd4ed7f7", func := "headland/headlandlaw15.TablePlays", spec := "tablePlays", inPlace := ["internal/bytealg.Compare"], unfollowed := true, recurses := true, named := ["unicode/utf8.first", "unicode/utf8.acceptRanges"], apart := false, laid := [("unicode/utf8.acceptRanges", laid_unicode_utf8_acceptRanges), ("unicode/utf8.first", laid_unicode_utf8_first)] }
def TablePlaysSaid : Prop := tablePlaysRow.holds Tryz.pinned (OpenSpec.ofChange tablePlaysSpec)

/-- ITS FALSE NEIGHBOUR: 'it returns false'. Refute it at one input. -/
def tablePlaysWrong : ChangeSpec := { name := "tablePlays", fn := fun _ => fun
  | [d] => { results := [.lit (.bool false)], args := [d] }
  | _ => none }
def TablePlaysWrongFalsely : Prop := tablePlaysRow.holds Tryz.pinned (OpenSpec.ofChange tablePlaysWrong)

/-- 'headlandlaw16.TxnRuns': WHATEVER THE INPUT: true; the input reads as it did. -/
def txnRunsSpec : ChangeSpec := { name := "txnRuns", fn := fun _ => fun
  | [d1, d2] => { results := [.lit (.bool true)], args := [d1, d2] }
  | _ => none }
def txnRunsRow : OpenClaim := { program := "ytekokogmnhlchaagreatdoor", sum := "ed4d04f51c6f934ccf8a338b3b95398a7bba1217695aaae95f9d06e3cd4ed7f7", func := "headland/headlandlaw16.TxnRuns", spec := "txnRuns", inPlace := ["internal/bytealg.Compare"], unfollowed := true, recurses := true, named := ["unicode/utf8.first", "unicode/utf8.acceptRanges"], apart := false, laid := [("unicode/utf8.acceptRanges", laid_unicode_utf8_acceptRanges), ("unicode/utf8.first", laid_unicode_utf8_first)] }
def TxnRunsSaid : Prop := txnRunsRow.holds Tryz.pinned (OpenSpec.ofChange txnRunsSpec)

/-- ITS FALSE NEIGHBOUR: 'it returns false'. Refute it at one input. -/
def txnRunsWrong : ChangeSpec := { name := "txnRuns", fn := fun _ => fun
  | [d1, d2] => { results := [.lit (.bool false)], args := [d1, d2] }
  | _ => none }
def TxnRunsWrongFalsely : Prop := txnRunsRow.holds Tryz.pinned (OpenSpec.ofChange txnRunsWrong)

/-- 'headlandlaw16.TxnReads': WHATEVER THE INPUT: true; the input reads as it did. -/
def txnReadsSpec : ChangeSpec := { name := "txnReads", fn := fun _ => fun
  | [d1, d2, d3] => { results := [.lit (.bool true)], args := [d1, d2, d3] }
  | _ => none }
def txnReadsRow : OpenClaim := { program := "ytekokogmnhlchaagreatdoor", sum := "ed4d04f51c6f934ccf8a338b3b95398a7bba1217695aaae95f9d06e3cd4ed7f7", func := "headland/headlandlaw16.TxnReads", spec := "txnReads", inPlace := ["internal/bytealg.Compare"], unfollowed := true, recurses := true, named := ["unicode/utf8.first", "unicode/utf8.acceptRanges"], apart := false, laid := [("unicode/utf8.acceptRanges", laid_unicode_utf8_acceptRanges), ("unicode/utf8.first", laid_unicode_utf8_first)] }
def TxnReadsSaid : Prop := txnReadsRow.holds Tryz.pinned (OpenSpec.ofChange txnReadsSpec)

/-- ITS FALSE NEIGHBOUR: 'it returns false'. Refute it at one input. -/
def txnReadsWrong : ChangeSpec := { name := "txnReads", fn := fun _ => fun
  | [d1, d2, d3] => { results := [.lit (.bool false)], args := [d1, d2, d3] }
  | _ => none }
def TxnReadsWrongFalsely : Prop := txnReadsRow.holds Tryz.pinned (OpenSpec.ofChange txnReadsWrong)

/-- 'headlandlaw16.TxnAll': WHATEVER THE INPUT: true; the input reads as it did. -/
def txnAllSpec : ChangeSpec := { name := "txnAll", fn := fun _ => fun
  | [d1, d2, d3] => { results := [.lit (.bool true)], args := [d1, d2, d3] }
  | _ => none }
def txnAllRow : OpenClaim := { program := "ytekokogmnhlchaagreatdoor", sum := "ed4d04f51c6f934ccf8a338b3b95398a7bba1217695aaae95f9d06e3cd4ed7f7", func := "headland/headlandlaw16.TxnAll", spec := "txnAll", inPlace := ["internal/bytealg.Compare"], unfollowed := true, recurses := true, named := ["unicode/utf8.first", "unicode/utf8.acceptRanges"], apart := false, laid := [("unicode/utf8.acceptRanges", laid_unicode_utf8_acceptRanges), ("unicode/utf8.first", laid_unicode_utf8_first)] }
def TxnAllSaid : Prop := txnAllRow.holds Tryz.pinned (OpenSpec.ofChange txnAllSpec)

/-- ITS FALSE NEIGHBOUR: 'it returns false'. Refute it at one input. -/
def txnAllWrong : ChangeSpec := { name := "txnAll", fn := fun _ => fun
  | [d1, d2, d3] => { results := [.lit (.bool false)], args := [d1, d2, d3] }
  | _ => none }
def TxnAllWrongFalsely : Prop := txnAllRow.holds Tryz.pinned (OpenSpec.ofChange txnAllWrong)

/-- 'headlandlaw16.TxnFold': WHATEVER THE INPUT: true; the input reads as it did. -/
def txnFoldSpec : ChangeSpec := { name := "txnFold", fn := fun _ => fun
  | [d1, d2] => { results := [.lit (.bool true)], args := [d1, d2] }
  | _ => none }
def txnFoldRow : OpenClaim := { program := "ytekokogmnhlchaagreatdoor", sum := "ed4d04f51c6f934ccf8a338b3b95398a7bba1217695aaae95f9d06e3cd4ed7f7", func := "headland/headlandlaw16.TxnFold", spec := "txnFold", inPlace := ["internal/bytealg.Compare"], unfollowed := true, recurses := true, named := ["unicode/utf8.first", "unicode/utf8.acceptRanges"], apart := false, laid := [("unicode/utf8.acceptRanges", laid_unicode_utf8_acceptRanges), ("unicode/utf8.first", laid_unicode_utf8_first)] }
def TxnFoldSaid : Prop := txnFoldRow.holds Tryz.pinned (OpenSpec.ofChange txnFoldSpec)

/-- ITS FALSE NEIGHBOUR: 'it returns false'. Refute it at one input. -/
def txnFoldWrong : ChangeSpec := { name := "txnFold", fn := fun _ => fun
  | [d1, d2] => { results := [.lit (.bool false)], args := [d1, d2] }
  | _ => none }
def TxnFoldWrongFalsely : Prop := txnFoldRow.holds Tryz.pinned (OpenSpec.ofChange txnFoldWrong)

/-- 'headlandlaw16.TxnRight': WHATEVER THE INPUT: true; the input reads as it did. -/
def txnRightSpec : ChangeSpec := { name := "txnRight", fn := fun _ => fun
  | [d1, d2, d3] => { results := [.lit (.bool true)], args := [d1, d2, d3] }
  | _ => none }
def txnRightRow : OpenClaim := { program := "ytekokogmnhlchaagreatdoor", sum := "ed4d04f51c6f934ccf8a338b3b95398a7bba1217695aaae95f9d06e3cd4ed7f7", func := "headland/headlandlaw16.TxnRight", spec := "txnRight", inPlace := ["internal/bytealg.Compare"], unfollowed := true, recurses := true, named := ["unicode/utf8.first", "unicode/utf8.acceptRanges"], apart := false, laid := [("unicode/utf8.acceptRanges", laid_unicode_utf8_acceptRanges), ("unicode/utf8.first", laid_unicode_utf8_first)] }
def TxnRightSaid : Prop := txnRightRow.holds Tryz.pinned (OpenSpec.ofChange txnRightSpec)

/-- ITS FALSE NEIGHBOUR: 'it returns false'. Refute it at one input. -/
def txnRightWrong : ChangeSpec := { name := "txnRight", fn := fun _ => fun
  | [d1, d2, d3] => { results := [.lit (.bool false)], args := [d1, d2, d3] }
  | _ => none }
def TxnRightWrongFalsely : Prop := txnRightRow.holds Tryz.pinned (OpenSpec.ofChange txnRightWrong)

/- THE SECOND FORM. 'bulk': how many values and letters a reading holds, each counted each time it is reached (what is shared counts as often as it is met; a slice's spare places count too). A statement '..UptoSaid' is the law's where the arguments, and the package variables that the reading takes, are together of bulk at most 1048576: NARROWER than '..Said'. Prove '..Said' where nothing that the law and all that it calls make is longer than what came in: it says more and counts as full. Else prove '..UptoSaid'. A law counts once. -/
mutual
def uptoBulk {H : Type} : DataW H → Nat
  | .lit (.string bytes) => bytes.length + 1
  | .lit _ => 1
  | .nil => 1
  | .ptr d => uptoBulk d + 1
  | .slice elems spare => uptoBulkAll elems + uptoBulkAll spare + 1
  | .agg parts => uptoBulkAll parts + 1
  | .iface _ d => uptoBulk d + 1
  | .map entries => uptoBulkEntries entries + 1
  | .held _ => 1
def uptoBulkAll {H : Type} : List (DataW H) → Nat
  | [] => 0
  | d :: r => uptoBulk d + uptoBulkAll r
def uptoBulkEntries {H : Type} : List (Lit × DataW H) → Nat
  | [] => 0
  | x :: r => uptoBulkEntry x + uptoBulkEntries r
def uptoBulkEntry {H : Type} : Lit × DataW H → Nat
  | (.string bytes, d) => bytes.length + uptoBulk d + 1
  | (_, d) => uptoBulk d + 1
 end
def uptoSmall : (H : Type) → List (DataW H) → Bool := fun _ ds => decide (uptoBulkAll ds ≤ 1048576)
def OpenSpec.upto (s : _root_.Go.ChangeSpec) : _root_.Go.OpenSpec := { _root_.Go.OpenSpec.ofChange s with cond := some uptoSmall }

/-- 'headlandlaw15.TableOrders', WHERE WHAT IT READS IS OF BULK AT MOST 1048576: true; the input reads as it did. -/
def tableOrdersUptoRow : OpenClaim := { program := "ytekokogmnhlchaagreatdoor", sum := "ed4d04f51c6f934ccf8a338b3b95398a7bba1217695aaae95f9d06e3cd4ed7f7", func := "headland/headlandlaw15.TableOrders", spec := "tableOrders", inPlace := ["internal/bytealg.Compare"], unfollowed := true, recurses := true, named := ["unicode/utf8.first", "unicode/utf8.acceptRanges"], apart := false, laid := [("unicode/utf8.acceptRanges", laid_unicode_utf8_acceptRanges), ("unicode/utf8.first", laid_unicode_utf8_first)], narrowed := true }
def TableOrdersUptoSaid : Prop := tableOrdersUptoRow.holds Tryz.pinned (OpenSpec.upto tableOrdersSpec)

/-- 'headlandlaw15.TableMany', WHERE WHAT IT READS IS OF BULK AT MOST 1048576: true; the input reads as it did. -/
def tableManyUptoRow : OpenClaim := { program := "ytekokogmnhlchaagreatdoor", sum := "ed4d04f51c6f934ccf8a338b3b95398a7bba1217695aaae95f9d06e3cd4ed7f7", func := "headland/headlandlaw15.TableMany", spec := "tableMany", inPlace := ["internal/bytealg.Compare"], unfollowed := true, recurses := true, named := ["unicode/utf8.first", "unicode/utf8.acceptRanges"], apart := false, laid := [("unicode/utf8.acceptRanges", laid_unicode_utf8_acceptRanges), ("unicode/utf8.first", laid_unicode_utf8_first)], narrowed := true }
def TableManyUptoSaid : Prop := tableManyUptoRow.holds Tryz.pinned (OpenSpec.upto tableManySpec)

/-- 'headlandlaw15.TableApart', WHERE WHAT IT READS IS OF BULK AT MOST 1048576: true; the input reads as it did. -/
def tableApartUptoRow : OpenClaim := { program := "ytekokogmnhlchaagreatdoor", sum := "ed4d04f51c6f934ccf8a338b3b95398a7bba1217695aaae95f9d06e3cd4ed7f7", func := "headland/headlandlaw15.TableApart", spec := "tableApart", inPlace := ["internal/bytealg.Compare"], unfollowed := true, recurses := true, named := ["unicode/utf8.first", "unicode/utf8.acceptRanges"], apart := false, laid := [("unicode/utf8.acceptRanges", laid_unicode_utf8_acceptRanges), ("unicode/utf8.first", laid_unicode_utf8_first)], narrowed := true }
def TableApartUptoSaid : Prop := tableApartUptoRow.holds Tryz.pinned (OpenSpec.upto tableApartSpec)

/-- 'headlandlaw15.TableBack', WHERE WHAT IT READS IS OF BULK AT MOST 1048576: true; the input reads as it did. -/
def tableBackUptoRow : OpenClaim := { program := "ytekokogmnhlchaagreatdoor", sum := "ed4d04f51c6f934ccf8a338b3b95398a7bba1217695aaae95f9d06e3cd4ed7f7", func := "headland/headlandlaw15.TableBack", spec := "tableBack", inPlace := ["internal/bytealg.Compare"], unfollowed := true, recurses := true, named := ["unicode/utf8.first", "unicode/utf8.acceptRanges"], apart := false, laid := [("unicode/utf8.acceptRanges", laid_unicode_utf8_acceptRanges), ("unicode/utf8.first", laid_unicode_utf8_first)], narrowed := true }
def TableBackUptoSaid : Prop := tableBackUptoRow.holds Tryz.pinned (OpenSpec.upto tableBackSpec)

/-- 'headlandlaw15.TableCount', WHERE WHAT IT READS IS OF BULK AT MOST 1048576: true; the input reads as it did. -/
def tableCountUptoRow : OpenClaim := { program := "ytekokogmnhlchaagreatdoor", sum := "ed4d04f51c6f934ccf8a338b3b95398a7bba1217695aaae95f9d06e3cd4ed7f7", func := "headland/headlandlaw15.TableCount", spec := "tableCount", inPlace := ["internal/bytealg.Compare"], unfollowed := true, recurses := true, named := ["unicode/utf8.first", "unicode/utf8.acceptRanges"], apart := false, laid := [("unicode/utf8.acceptRanges", laid_unicode_utf8_acceptRanges), ("unicode/utf8.first", laid_unicode_utf8_first)], narrowed := true }
def TableCountUptoSaid : Prop := tableCountUptoRow.holds Tryz.pinned (OpenSpec.upto tableCountSpec)

/-- 'headlandlaw15.TableIndexes', WHERE WHAT IT READS IS OF BULK AT MOST 1048576: true; the input reads as it did. -/
def tableIndexesUptoRow : OpenClaim := { program := "ytekokogmnhlchaagreatdoor", sum := "ed4d04f51c6f934ccf8a338b3b95398a7bba1217695aaae95f9d06e3cd4ed7f7", func := "headland/headlandlaw15.TableIndexes", spec := "tableIndexes", inPlace := ["internal/bytealg.Compare"], unfollowed := true, recurses := true, named := ["unicode/utf8.first", "unicode/utf8.acceptRanges"], apart := false, laid := [("unicode/utf8.acceptRanges", laid_unicode_utf8_acceptRanges), ("unicode/utf8.first", laid_unicode_utf8_first)], narrowed := true }
def TableIndexesUptoSaid : Prop := tableIndexesUptoRow.holds Tryz.pinned (OpenSpec.upto tableIndexesSpec)

/-- 'headlandlaw15.TablePlays', WHERE WHAT IT READS IS OF BULK AT MOST 1048576: true; the input reads as it did. -/
def tablePlaysUptoRow : OpenClaim := { program := "ytekokogmnhlchaagreatdoor", sum := "ed4d04f51c6f934ccf8a338b3b95398a7bba1217695aaae95f9d06e3cd4ed7f7", func := "headland/headlandlaw15.TablePlays", spec := "tablePlays", inPlace := ["internal/bytealg.Compare"], unfollowed := true, recurses := true, named := ["unicode/utf8.first", "unicode/utf8.acceptRanges"], apart := false, laid := [("unicode/utf8.acceptRanges", laid_unicode_utf8_acceptRanges), ("unicode/utf8.first", laid_unicode_utf8_first)], narrowed := true }
def TablePlaysUptoSaid : Prop := tablePlaysUptoRow.holds Tryz.pinned (OpenSpec.upto tablePlaysSpec)

/-- 'headlandlaw16.TxnRuns', WHERE WHAT IT READS IS OF BULK AT MOST 1048576: true; the input reads as it did. -/
def txnRunsUptoRow : OpenClaim := { program := "ytekokogmnhlchaagreatdoor", sum := "ed4d04f51c6f934ccf8a338b3b95398a7bba1217695aaae95f9d06e3cd4ed7f7", func := "headland/headlandlaw16.TxnRuns", spec := "txnRuns", inPlace := ["internal/bytealg.Compare"], unfollowed := true, recurses := true, named := ["unicode/utf8.first", "unicode/utf8.acceptRanges"], apart := false, laid := [("unicode/utf8.acceptRanges", laid_unicode_utf8_acceptRanges), ("unicode/utf8.first", laid_unicode_utf8_first)], narrowed := true }
def TxnRunsUptoSaid : Prop := txnRunsUptoRow.holds Tryz.pinned (OpenSpec.upto txnRunsSpec)

/-- 'headlandlaw16.TxnReads', WHERE WHAT IT READS IS OF BULK AT MOST 1048576: true; the input reads as it did. -/
def txnReadsUptoRow : OpenClaim := { program := "ytekokogmnhlchaagreatdoor", sum := "ed4d04f51c6f934ccf8a338b3b95398a7bba1217695aaae95f9d06e3cd4ed7f7", func := "headland/headlandlaw16.TxnReads", spec := "txnReads", inPlace := ["internal/bytealg.Compare"], unfollowed := true, recurses := true, named := ["unicode/utf8.first", "unicode/utf8.acceptRanges"], apart := false, laid := [("unicode/utf8.acceptRanges", laid_unicode_utf8_acceptRanges), ("unicode/utf8.first", laid_unicode_utf8_first)], narrowed := true }
def TxnReadsUptoSaid : Prop := txnReadsUptoRow.holds Tryz.pinned (OpenSpec.upto txnReadsSpec)

/-- 'headlandlaw16.TxnAll', WHERE WHAT IT READS IS OF BULK AT MOST 1048576: true; the input reads as it did. -/
def txnAllUptoRow : OpenClaim := { program := "ytekokogmnhlchaagreatdoor", sum := "ed4d04f51c6f934ccf8a338b3b95398a7bba1217695aaae95f9d06e3cd4ed7f7", func := "headland/headlandlaw16.TxnAll", spec := "txnAll", inPlace := ["internal/bytealg.Compare"], unfollowed := true, recurses := true, named := ["unicode/utf8.first", "unicode/utf8.acceptRanges"], apart := false, laid := [("unicode/utf8.acceptRanges", laid_unicode_utf8_acceptRanges), ("unicode/utf8.first", laid_unicode_utf8_first)], narrowed := true }
def TxnAllUptoSaid : Prop := txnAllUptoRow.holds Tryz.pinned (OpenSpec.upto txnAllSpec)

/-- 'headlandlaw16.TxnFold', WHERE WHAT IT READS IS OF BULK AT MOST 1048576: true; the input reads as it did. -/
def txnFoldUptoRow : OpenClaim := { program := "ytekokogmnhlchaagreatdoor", sum := "ed4d04f51c6f934ccf8a338b3b95398a7bba1217695aaae95f9d06e3cd4ed7f7", func := "headland/headlandlaw16.TxnFold", spec := "txnFold", inPlace := ["internal/bytealg.Compare"], unfollowed := true, recurses := true, named := ["unicode/utf8.first", "unicode/utf8.acceptRanges"], apart := false, laid := [("unicode/utf8.acceptRanges", laid_unicode_utf8_acceptRanges), ("unicode/utf8.first", laid_unicode_utf8_first)], narrowed := true }
def TxnFoldUptoSaid : Prop := txnFoldUptoRow.holds Tryz.pinned (OpenSpec.upto txnFoldSpec)

/-- 'headlandlaw16.TxnRight', WHERE WHAT IT READS IS OF BULK AT MOST 1048576: true; the input reads as it did. -/
def txnRightUptoRow : OpenClaim := { program := "ytekokogmnhlchaagreatdoor", sum := "ed4d04f51c6f934ccf8a338b3b95398a7bba1217695aaae95f9d06e3cd4ed7f7", func := "headland/headlandlaw16.TxnRight", spec := "txnRight", inPlace := ["internal/bytealg.Compare"], unfollowed := true, recurses := true, named := ["unicode/utf8.first", "unicode/utf8.acceptRanges"], apart := false, laid := [("unicode/utf8.acceptRanges", laid_unicode_utf8_acceptRanges), ("unicode/utf8.first", laid_unicode_utf8_first)], narrowed := true }
def TxnRightUptoSaid : Prop := txnRightUptoRow.holds Tryz.pinned (OpenSpec.upto txnRightSpec)

end Rows
end Go.Proofs.YtekokogmnhlchaaGreatDoor
