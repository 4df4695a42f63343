/-
  DERIVED. GIVEN WITH THE SEED: THE CARDS: each row of YtekokogmnhlchaaGreatDoorRows.lean that lists a variable, with what it lists TIED to the program's text (the seventh form; the later family's looks); each row that meets fmt, with fmt's text TOLD by the authors' own Lean function (tested against real Go, not proved from fmt's source: count such statements apart). THE CARD IS WHAT COUNTS. Prove the row's statement (the work); the ties are given (YtekokogmnhlchaaGreatDoorTie.lean); close each card by the builder's one call (the guide's Derived/Test/ToyasCard.lean, 'card_holds'). Laid BY PROGRAM, IN A SANDBOX (cutbox-door.mjs). By AI agents, Wed Nov 11 2026. No macro, syntax, notation, axiom, sorry.
-/
import Derived.Test.YtekokogmnhlchaaGreatDoorRows
import GoSem.ClaimSeven
namespace Go.Proofs.YtekokogmnhlchaaGreatDoor
namespace Rows

/-- THE TIED CARD OF 'headlandlaw15.TableOrders'. -/
def tableOrdersCard : Claim7 := { stood := { row := tableOrdersRow, standIns := [], harness := (true, "830214361cd49661a152ee0e4fd09f511b170a412d8a8a6fefc100e19674c35a"), looks := true }, kinds := [], alts := [], laidByText := true, laidKinds := [.data, .pinned], laidTests := true, laidLooks := .later }
def TableOrdersCardSaid : Prop := Claim7.holds Tryz.pinned (.plain (OpenSpec.ofChange tableOrdersSpec)) tableOrdersCard

/-- THE TIED CARD OF 'headlandlaw15.TableMany'. -/
def tableManyCard : Claim7 := { stood := { row := tableManyRow, standIns := [], harness := (true, "830214361cd49661a152ee0e4fd09f511b170a412d8a8a6fefc100e19674c35a"), looks := true }, kinds := [], alts := [], laidByText := true, laidKinds := [.data, .pinned], laidTests := true, laidLooks := .later }
def TableManyCardSaid : Prop := Claim7.holds Tryz.pinned (.plain (OpenSpec.ofChange tableManySpec)) tableManyCard

/-- THE TIED CARD OF 'headlandlaw15.TableApart'. -/
def tableApartCard : Claim7 := { stood := { row := tableApartRow, standIns := [], harness := (true, "830214361cd49661a152ee0e4fd09f511b170a412d8a8a6fefc100e19674c35a"), looks := true }, kinds := [], alts := [], laidByText := true, laidKinds := [.data, .pinned], laidTests := true, laidLooks := .later }
def TableApartCardSaid : Prop := Claim7.holds Tryz.pinned (.plain (OpenSpec.ofChange tableApartSpec)) tableApartCard

/-- THE TIED CARD OF 'headlandlaw15.TableBack'. -/
def tableBackCard : Claim7 := { stood := { row := tableBackRow, standIns := [], harness := (true, "830214361cd49661a152ee0e4fd09f511b170a412d8a8a6fefc100e19674c35a"), looks := true }, kinds := [], alts := [], laidByText := true, laidKinds := [.data, .pinned], laidTests := true, laidLooks := .later }
def TableBackCardSaid : Prop := Claim7.holds Tryz.pinned (.plain (OpenSpec.ofChange tableBackSpec)) tableBackCard

/-- THE TIED CARD OF 'headlandlaw15.TableCount'. -/
def tableCountCard : Claim7 := { stood := { row := tableCountRow, standIns := [], harness := (true, "830214361cd49661a152ee0e4fd09f511b170a412d8a8a6fefc100e19674c35a"), looks := true }, kinds := [], alts := [], laidByText := true, laidKinds := [.data, .pinned], laidTests := true, laidLooks := .later }
def TableCountCardSaid : Prop := Claim7.holds Tryz.pinned (.plain (OpenSpec.ofChange tableCountSpec)) tableCountCard

/-- THE TIED CARD OF 'headlandlaw15.TableIndexes'. -/
def tableIndexesCard : Claim7 := { stood := { row := tableIndexesRow, standIns := [], harness := (true, "830214361cd49661a152ee0e4fd09f511b170a412d8a8a6fefc100e19674c35a"), looks := true }, kinds := [], alts := [], laidByText := true, laidKinds := [.data, .pinned], laidTests := true, laidLooks := .later }
def TableIndexesCardSaid : Prop := Claim7.holds Tryz.pinned (.plain (OpenSpec.ofChange tableIndexesSpec)) tableIndexesCard

/-- THE TIED CARD OF 'headlandlaw15.TablePlays'. -/
def tablePlaysCard : Claim7 := { stood := { row := tablePlaysRow, standIns := [], harness := (true, "830214361cd49661a152ee0e4fd09f511b170a412d8a8a6fefc100e19674c35a"), looks := true }, kinds := [], alts := [], laidByText := true, laidKinds := [.data, .pinned], laidTests := true, laidLooks := .later }
def TablePlaysCardSaid : Prop := Claim7.holds Tryz.pinned (.plain (OpenSpec.ofChange tablePlaysSpec)) tablePlaysCard

/-- THE TIED CARD OF 'headlandlaw16.TxnRuns'. -/
def txnRunsCard : Claim7 := { stood := { row := txnRunsRow, standIns := [], harness := (true, "830214361cd49661a152ee0e4fd09f511b170a412d8a8a6fefc100e19674c35a"), looks := true }, kinds := [], alts := [], laidByText := true, laidKinds := [.data, .pinned], laidTests := true, laidLooks := .later }
def TxnRunsCardSaid : Prop := Claim7.holds Tryz.pinned (.plain (OpenSpec.ofChange txnRunsSpec)) txnRunsCard

/-- THE TIED CARD OF 'headlandlaw16.TxnReads'. -/
def txnReadsCard : Claim7 := { stood := { row := txnReadsRow, standIns := [], harness := (true, "830214361cd49661a152ee0e4fd09f511b170a412d8a8a6fefc100e19674c35a"), looks := true }, kinds := [], alts := [], laidByText := true, laidKinds := [.data, .pinned], laidTests := true, laidLooks := .later }
def TxnReadsCardSaid : Prop := Claim7.holds Tryz.pinned (.plain (OpenSpec.ofChange txnReadsSpec)) txnReadsCard

/-- THE TIED CARD OF 'headlandlaw16.TxnAll'. -/
def txnAllCard : Claim7 := { stood := { row := txnAllRow, standIns := [], harness := (true, "830214361cd49661a152ee0e4fd09f511b170a412d8a8a6fefc100e19674c35a"), looks := true }, kinds := [], alts := [], laidByText := true, laidKinds := [.data, .pinned], laidTests := true, laidLooks := .later }
def TxnAllCardSaid : Prop := Claim7.holds Tryz.pinned (.plain (OpenSpec.ofChange txnAllSpec)) txnAllCard

/-- THE TIED CARD OF 'headlandlaw16.TxnFold'. -/
def txnFoldCard : Claim7 := { stood := { row := txnFoldRow, standIns := [], harness := (true, "830214361cd49661a152ee0e4fd09f511b170a412d8a8a6fefc100e19674c35a"), looks := true }, kinds := [], alts := [], laidByText := true, laidKinds := [.data, .pinned], laidTests := true, laidLooks := .later }
def TxnFoldCardSaid : Prop := Claim7.holds Tryz.pinned (.plain (OpenSpec.ofChange txnFoldSpec)) txnFoldCard

/-- THE TIED CARD OF 'headlandlaw16.TxnRight'. -/
def txnRightCard : Claim7 := { stood := { row := txnRightRow, standIns := [], harness := (true, "830214361cd49661a152ee0e4fd09f511b170a412d8a8a6fefc100e19674c35a"), looks := true }, kinds := [], alts := [], laidByText := true, laidKinds := [.data, .pinned], laidTests := true, laidLooks := .later }
def TxnRightCardSaid : Prop := Claim7.holds Tryz.pinned (.plain (OpenSpec.ofChange txnRightSpec)) txnRightCard

/-- THE SECOND FORM's CARD OF 'headlandlaw15.TableOrders'. -/
def tableOrdersUptoCard : Claim7 := { stood := { row := tableOrdersUptoRow, standIns := [], harness := (true, "830214361cd49661a152ee0e4fd09f511b170a412d8a8a6fefc100e19674c35a"), looks := true }, kinds := [], alts := [], laidByText := true, laidKinds := [.data, .pinned], laidTests := true, laidLooks := .later }
def TableOrdersUptoCardSaid : Prop := Claim7.holds Tryz.pinned (.plain (OpenSpec.upto tableOrdersSpec)) tableOrdersUptoCard

/-- THE SECOND FORM's CARD OF 'headlandlaw15.TableMany'. -/
def tableManyUptoCard : Claim7 := { stood := { row := tableManyUptoRow, standIns := [], harness := (true, "830214361cd49661a152ee0e4fd09f511b170a412d8a8a6fefc100e19674c35a"), looks := true }, kinds := [], alts := [], laidByText := true, laidKinds := [.data, .pinned], laidTests := true, laidLooks := .later }
def TableManyUptoCardSaid : Prop := Claim7.holds Tryz.pinned (.plain (OpenSpec.upto tableManySpec)) tableManyUptoCard

/-- THE SECOND FORM's CARD OF 'headlandlaw15.TableApart'. -/
def tableApartUptoCard : Claim7 := { stood := { row := tableApartUptoRow, standIns := [], harness := (true, "830214361cd49661a152ee0e4fd09f511b170a412d8a8a6fefc100e19674c35a"), looks := true }, kinds := [], alts := [], laidByText := true, laidKinds := [.data, .pinned], laidTests := true, laidLooks := .later }
def TableApartUptoCardSaid : Prop := Claim7.holds Tryz.pinned (.plain (OpenSpec.upto tableApartSpec)) tableApartUptoCard

/-- THE SECOND FORM's CARD OF 'headlandlaw15.TableBack'. -/
def tableBackUptoCard : Claim7 := { stood := { row := tableBackUptoRow, standIns := [], harness := (true, "830214361cd49661a152ee0e4fd09f511b170a412d8a8a6fefc100e19674c35a"), looks := true }, kinds := [], alts := [], laidByText := true, laidKinds := [.data, .pinned], laidTests := true, laidLooks := .later }
def TableBackUptoCardSaid : Prop := Claim7.holds Tryz.pinned (.plain (OpenSpec.upto tableBackSpec)) tableBackUptoCard

/-- THE SECOND FORM's CARD OF 'headlandlaw15.TableCount'. -/
def tableCountUptoCard : Claim7 := { stood := { row := tableCountUptoRow, standIns := [], harness := (true, "830214361cd49661a152ee0e4fd09f511b170a412d8a8a6fefc100e19674c35a"), looks := true }, kinds := [], alts := [], laidByText := true, laidKinds := [.data, .pinned], laidTests := true, laidLooks := .later }
def TableCountUptoCardSaid : Prop := Claim7.holds Tryz.pinned (.plain (OpenSpec.upto tableCountSpec)) tableCountUptoCard

/-- THE SECOND FORM's CARD OF 'headlandlaw15.TableIndexes'. -/
def tableIndexesUptoCard : Claim7 := { stood := { row := tableIndexesUptoRow, standIns := [], harness := (true, "830214361cd49661a152ee0e4fd09f511b170a412d8a8a6fefc100e19674c35a"), looks := true }, kinds := [], alts := [], laidByText := true, laidKinds := [.data, .pinned], laidTests := true, laidLooks := .later }
def TableIndexesUptoCardSaid : Prop := Claim7.holds Tryz.pinned (.plain (OpenSpec.upto tableIndexesSpec)) tableIndexesUptoCard

/-- THE SECOND FORM's CARD OF 'headlandlaw15.TablePlays'. -/
def tablePlaysUptoCard : Claim7 := { stood := { row := tablePlaysUptoRow, standIns := [], harness := (true, "830214361cd49661a152ee0e4fd09f511b170a412d8a8a6fefc100e19674c35a"), looks := true }, kinds := [], alts := [], laidByText := true, laidKinds := [.data, .pinned], laidTests := true, laidLooks := .later }
def TablePlaysUptoCardSaid : Prop := Claim7.holds Tryz.pinned (.plain (OpenSpec.upto tablePlaysSpec)) tablePlaysUptoCard

/-- THE SECOND FORM's CARD OF 'headlandlaw16.TxnRuns'. -/
def txnRunsUptoCard : Claim7 := { stood := { row := txnRunsUptoRow, standIns := [], harness := (true, "830214361cd49661a152ee0e4fd09f511b170a412d8a8a6fefc100e19674c35a"), looks := true }, kinds := [], alts := [], laidByText := true, laidKinds := [.data, .pinned], laidTests := true, laidLooks := .later }
def TxnRunsUptoCardSaid : Prop := Claim7.holds Tryz.pinned (.plain (OpenSpec.upto txnRunsSpec)) txnRunsUptoCard

/-- THE SECOND FORM's CARD OF 'headlandlaw16.TxnReads'. -/
def txnReadsUptoCard : Claim7 := { stood := { row := txnReadsUptoRow, standIns := [], harness := (true, "830214361cd49661a152ee0e4fd09f511b170a412d8a8a6fefc100e19674c35a"), looks := true }, kinds := [], alts := [], laidByText := true, laidKinds := [.data, .pinned], laidTests := true, laidLooks := .later }
def TxnReadsUptoCardSaid : Prop := Claim7.holds Tryz.pinned (.plain (OpenSpec.upto txnReadsSpec)) txnReadsUptoCard

/-- THE SECOND FORM's CARD OF 'headlandlaw16.TxnAll'. -/
def txnAllUptoCard : Claim7 := { stood := { row := txnAllUptoRow, standIns := [], harness := (true, "830214361cd49661a152ee0e4fd09f511b170a412d8a8a6fefc100e19674c35a"), looks := true }, kinds := [], alts := [], laidByText := true, laidKinds := [.data, .pinned], laidTests := true, laidLooks := .later }
def TxnAllUptoCardSaid : Prop := Claim7.holds Tryz.pinned (.plain (OpenSpec.upto txnAllSpec)) txnAllUptoCard

/-- THE SECOND FORM's CARD OF 'headlandlaw16.TxnFold'. -/
def txnFoldUptoCard : Claim7 := { stood := { row := txnFoldUptoRow, standIns := [], harness := (true, "830214361cd49661a152ee0e4fd09f511b170a412d8a8a6fefc100e19674c35a"), looks := true }, kinds := [], alts := [], laidByText := true, laidKinds := [.data, .pinned], laidTests := true, laidLooks := .later }
def TxnFoldUptoCardSaid : Prop := Claim7.holds Tryz.pinned (.plain (OpenSpec.upto txnFoldSpec)) txnFoldUptoCard

/-- THE SECOND FORM's CARD OF 'headlandlaw16.TxnRight'. -/
def txnRightUptoCard : Claim7 := { stood := { row := txnRightUptoRow, standIns := [], harness := (true, "830214361cd49661a152ee0e4fd09f511b170a412d8a8a6fefc100e19674c35a"), looks := true }, kinds := [], alts := [], laidByText := true, laidKinds := [.data, .pinned], laidTests := true, laidLooks := .later }
def TxnRightUptoCardSaid : Prop := Claim7.holds Tryz.pinned (.plain (OpenSpec.upto txnRightSpec)) txnRightUptoCard
end Rows
end Go.Proofs.YtekokogmnhlchaaGreatDoor
