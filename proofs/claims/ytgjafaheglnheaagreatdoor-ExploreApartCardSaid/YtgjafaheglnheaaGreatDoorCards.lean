/-
  DERIVED. GIVEN WITH THE SEED: THE CARDS: each row of YtgjafaheglnheaaGreatDoorRows.lean that lists a variable, with what it lists TIED to the program's text (the seventh form; the later family's looks); each row that meets fmt, with fmt's text TOLD by the authors' own Lean function (tested against real Go, not proved from fmt's source: count such statements apart). THE CARD IS WHAT COUNTS. Prove the row's statement (the work); the ties are given (YtgjafaheglnheaaGreatDoorTie.lean); close each card by the builder's one call (the guide's Derived/Test/ToyasCard.lean, 'card_holds'). Laid BY PROGRAM, IN A SANDBOX (cutbox-door.mjs). By AI agents, Wed Nov 11 2026. No macro, syntax, notation, axiom, sorry.
-/
import Derived.Test.YtgjafaheglnheaaGreatDoorRows
import GoSem.ClaimSeven
namespace Go.Proofs.YtgjafaheglnheaaGreatDoor
namespace Rows

/-- THE TIED CARD OF 'hostlerlaw24.BoundNumbers'. -/
def boundNumbersCard : Claim7 := { stood := { row := boundNumbersRow, standIns := [], harness := (true, "08ced14ec5ebe1c94154d062f2fc329b8960c0e82a2aec6dd10a142bd1670f51"), looks := true }, kinds := [], alts := [], laidByText := true, laidKinds := [.data, .widerDeep, .data, .widerDeep], laidTests := true, laidLooks := .later }
def BoundNumbersCardSaid : Prop := Claim7.holds Tryz.pinned (.plain (OpenSpec.ofChange boundNumbersSpec)) boundNumbersCard

/-- THE TIED CARD OF 'hostlerlaw28.ExploreApart'. -/
def exploreApartCard : Claim7 := { stood := { row := exploreApartRow, standIns := [], harness := (true, "08ced14ec5ebe1c94154d062f2fc329b8960c0e82a2aec6dd10a142bd1670f51"), looks := true }, kinds := [], alts := [], laidByText := true, laidKinds := [.data, .widerDeep, .data, .widerDeep], laidTests := true, laidLooks := .later }
def ExploreApartCardSaid : Prop := Claim7.holds Tryz.pinned (.plain (OpenSpec.ofChange exploreApartSpec)) exploreApartCard

/-- THE TIED CARD OF 'hostlerlaw28.ExploreOrders'. -/
def exploreOrdersCard : Claim7 := { stood := { row := exploreOrdersRow, standIns := [], harness := (true, "08ced14ec5ebe1c94154d062f2fc329b8960c0e82a2aec6dd10a142bd1670f51"), looks := true }, kinds := [], alts := [], laidByText := true, laidKinds := [.data, .widerDeep, .data, .widerDeep], laidTests := true, laidLooks := .later }
def ExploreOrdersCardSaid : Prop := Claim7.holds Tryz.pinned (.plain (OpenSpec.ofChange exploreOrdersSpec)) exploreOrdersCard

/-- THE TIED CARD OF 'hostlerlaw26.BoxedMust'. -/
def boxedMustCard : Claim7 := { stood := { row := boxedMustRow, standIns := [], harness := (true, "08ced14ec5ebe1c94154d062f2fc329b8960c0e82a2aec6dd10a142bd1670f51"), looks := true }, kinds := [], alts := [], laidByText := true, laidKinds := [.data, .widerDeep, .data, .widerDeep], laidTests := true, laidLooks := .later }
def BoxedMustCardSaid : Prop := Claim7.holds Tryz.pinned (.plain (OpenSpec.ofChange boxedMustSpec)) boxedMustCard

/-- THE TIED CARD OF 'hostlerlaw20.WorldAgain'. -/
def worldAgainCard : Claim7 := { stood := { row := worldAgainRow, standIns := [], harness := (true, "08ced14ec5ebe1c94154d062f2fc329b8960c0e82a2aec6dd10a142bd1670f51"), looks := true }, kinds := [], alts := [], laidByText := true, laidKinds := [.data, .widerDeep, .data, .widerDeep], laidTests := true, laidLooks := .later }
def WorldAgainCardSaid : Prop := Claim7.holds Tryz.pinned (.plain (OpenSpec.ofChange worldAgainSpec)) worldAgainCard

/-- THE TIED CARD OF 'hostlerlaw27.TallyJoins'. -/
def tallyJoinsCard : Claim7 := { stood := { row := tallyJoinsRow, standIns := [], harness := (true, "08ced14ec5ebe1c94154d062f2fc329b8960c0e82a2aec6dd10a142bd1670f51"), looks := true }, kinds := [], alts := [], laidByText := true, laidKinds := [.data, .widerDeep, .data, .widerDeep], laidTests := true, laidLooks := .later }
def TallyJoinsCardSaid : Prop := Claim7.holds Tryz.pinned (.plain (OpenSpec.ofChange tallyJoinsSpec)) tallyJoinsCard

/-- THE TIED CARD OF 'hostlertop.TopRun'. -/
def topRunCard : Claim7 := { stood := { row := topRunRow, standIns := [], harness := (true, "08ced14ec5ebe1c94154d062f2fc329b8960c0e82a2aec6dd10a142bd1670f51"), looks := true }, kinds := [], alts := [], laidByText := true, laidKinds := [.data, .widerDeep, .data, .widerDeep], laidTests := true, laidLooks := .later }
def TopRunCardSaid : Prop := Claim7.holds Tryz.pinned (.plain (OpenSpec.ofChange topRunSpec)) topRunCard

/-- THE TIED CARD OF 'hostlerlaw22.RoundHabits'. -/
def roundHabitsCard : Claim7 := { stood := { row := roundHabitsRow, standIns := [], harness := (true, "08ced14ec5ebe1c94154d062f2fc329b8960c0e82a2aec6dd10a142bd1670f51"), looks := true }, kinds := [], alts := [], laidByText := true, laidKinds := [.data, .widerDeep, .data, .widerDeep], laidTests := true, laidLooks := .later }
def RoundHabitsCardSaid : Prop := Claim7.holds Tryz.pinned (.plain (OpenSpec.ofChange roundHabitsSpec)) roundHabitsCard

/-- THE TIED CARD OF 'hostlerlaw22.RoundUntil'. -/
def roundUntilCard : Claim7 := { stood := { row := roundUntilRow, standIns := [], harness := (true, "08ced14ec5ebe1c94154d062f2fc329b8960c0e82a2aec6dd10a142bd1670f51"), looks := true }, kinds := [], alts := [], laidByText := true, laidKinds := [.data, .widerDeep, .data, .widerDeep], laidTests := true, laidLooks := .later }
def RoundUntilCardSaid : Prop := Claim7.holds Tryz.pinned (.plain (OpenSpec.ofChange roundUntilSpec)) roundUntilCard

/-- THE TIED CARD OF 'hostlerlaw22.RoundAll'. -/
def roundAllCard : Claim7 := { stood := { row := roundAllRow, standIns := [], harness := (true, "08ced14ec5ebe1c94154d062f2fc329b8960c0e82a2aec6dd10a142bd1670f51"), looks := true }, kinds := [], alts := [], laidByText := true, laidKinds := [.data, .widerDeep, .data, .widerDeep], laidTests := true, laidLooks := .later }
def RoundAllCardSaid : Prop := Claim7.holds Tryz.pinned (.plain (OpenSpec.ofChange roundAllSpec)) roundAllCard

/-- THE TIED CARD OF 'hostlerlaw25.TraceNever'. -/
def traceNeverCard : Claim7 := { stood := { row := traceNeverRow, standIns := [], harness := (true, "08ced14ec5ebe1c94154d062f2fc329b8960c0e82a2aec6dd10a142bd1670f51"), looks := true }, kinds := [], alts := [], laidByText := true, laidKinds := [.data, .widerDeep, .data, .widerDeep], laidTests := true, laidLooks := .later }
def TraceNeverCardSaid : Prop := Claim7.holds Tryz.pinned (.plain (OpenSpec.ofChange traceNeverSpec)) traceNeverCard

/-- THE TIED CARD OF 'hostlerlaw25.TraceTimes'. -/
def traceTimesCard : Claim7 := { stood := { row := traceTimesRow, standIns := [], harness := (true, "08ced14ec5ebe1c94154d062f2fc329b8960c0e82a2aec6dd10a142bd1670f51"), looks := true }, kinds := [], alts := [], laidByText := true, laidKinds := [.data, .widerDeep, .data, .widerDeep], laidTests := true, laidLooks := .later }
def TraceTimesCardSaid : Prop := Claim7.holds Tryz.pinned (.plain (OpenSpec.ofChange traceTimesSpec)) traceTimesCard

/-- THE TIED CARD OF 'hostlerlaw25.TraceOrder'. -/
def traceOrderCard : Claim7 := { stood := { row := traceOrderRow, standIns := [], harness := (true, "08ced14ec5ebe1c94154d062f2fc329b8960c0e82a2aec6dd10a142bd1670f51"), looks := true }, kinds := [], alts := [], laidByText := true, laidKinds := [.data, .widerDeep, .data, .widerDeep], laidTests := true, laidLooks := .later }
def TraceOrderCardSaid : Prop := Claim7.holds Tryz.pinned (.plain (OpenSpec.ofChange traceOrderSpec)) traceOrderCard

/-- THE TIED CARD OF 'hostlerlaw25.TraceFrom'. -/
def traceFromCard : Claim7 := { stood := { row := traceFromRow, standIns := [], harness := (true, "08ced14ec5ebe1c94154d062f2fc329b8960c0e82a2aec6dd10a142bd1670f51"), looks := true }, kinds := [], alts := [], laidByText := true, laidKinds := [.data, .widerDeep, .data, .widerDeep], laidTests := true, laidLooks := .later }
def TraceFromCardSaid : Prop := Claim7.holds Tryz.pinned (.plain (OpenSpec.ofChange traceFromSpec)) traceFromCard

/-- THE TIED CARD OF 'hostlerlaw24.BoundDispatches'. -/
def boundDispatchesCard : Claim7 := { stood := { row := boundDispatchesRow, standIns := [], harness := (true, "08ced14ec5ebe1c94154d062f2fc329b8960c0e82a2aec6dd10a142bd1670f51"), looks := true }, kinds := [], alts := [], laidByText := true, laidKinds := [.data, .widerDeep, .data, .widerDeep], laidTests := true, laidLooks := .later }
def BoundDispatchesCardSaid : Prop := Claim7.holds Tryz.pinned (.plain (OpenSpec.ofChange boundDispatchesSpec)) boundDispatchesCard

/-- THE TIED CARD OF 'hostlerlaw20.WorldConfigs'. -/
def worldConfigsCard : Claim7 := { stood := { row := worldConfigsRow, standIns := [], harness := (true, "08ced14ec5ebe1c94154d062f2fc329b8960c0e82a2aec6dd10a142bd1670f51"), looks := true }, kinds := [], alts := [], laidByText := true, laidKinds := [.data, .widerDeep, .data, .widerDeep], laidTests := true, laidLooks := .later }
def WorldConfigsCardSaid : Prop := Claim7.holds Tryz.pinned (.plain (OpenSpec.ofChange worldConfigsSpec)) worldConfigsCard

/-- THE TIED CARD OF 'hostlerlaw20.WorldModel'. -/
def worldModelCard : Claim7 := { stood := { row := worldModelRow, standIns := [], harness := (true, "08ced14ec5ebe1c94154d062f2fc329b8960c0e82a2aec6dd10a142bd1670f51"), looks := true }, kinds := [], alts := [], laidByText := true, laidKinds := [.data, .widerDeep, .data, .widerDeep], laidTests := true, laidLooks := .later }
def WorldModelCardSaid : Prop := Claim7.holds Tryz.pinned (.plain (OpenSpec.ofChange worldModelSpec)) worldModelCard

/-- THE TIED CARD OF 'hostlertop.TopOrders'. -/
def topOrdersCard : Claim7 := { stood := { row := topOrdersRow, standIns := [], harness := (true, "08ced14ec5ebe1c94154d062f2fc329b8960c0e82a2aec6dd10a142bd1670f51"), looks := true }, kinds := [], alts := [], laidByText := true, laidKinds := [.data, .data, .data, .widerDeep, .data, .widerDeep], laidTests := true, laidLooks := .later }
def TopOrdersCardSaid : Prop := Claim7.holds Tryz.pinned (.plain (OpenSpec.ofChange topOrdersSpec)) topOrdersCard

/-- THE TIED CARD OF 'hostlerlaw24.BoundServes'. -/
def boundServesCard : Claim7 := { stood := { row := boundServesRow, standIns := [], harness := (true, "08ced14ec5ebe1c94154d062f2fc329b8960c0e82a2aec6dd10a142bd1670f51"), looks := true }, kinds := [], alts := [], laidByText := true, laidKinds := [.data, .widerDeep, .data, .widerDeep], laidTests := true, laidLooks := .later }
def BoundServesCardSaid : Prop := Claim7.holds Tryz.pinned (.plain (OpenSpec.ofChange boundServesSpec)) boundServesCard

/-- THE TIED CARD OF 'hostlerlaw26.BoxedTexts'. -/
def boxedTextsCard : Claim7 := { stood := { row := boxedTextsRow, standIns := [], harness := (true, "08ced14ec5ebe1c94154d062f2fc329b8960c0e82a2aec6dd10a142bd1670f51"), looks := true }, kinds := [], alts := [], laidByText := true, laidKinds := [.data, .widerDeep, .data, .widerDeep], laidTests := true, laidLooks := .later }
def BoxedTextsCardSaid : Prop := Claim7.holds Tryz.pinned (.plain (OpenSpec.ofChange boxedTextsSpec)) boxedTextsCard

/-- THE SECOND FORM's CARD OF 'hostlerlaw24.BoundNumbers'. -/
def boundNumbersUptoCard : Claim7 := { stood := { row := boundNumbersUptoRow, standIns := [], harness := (true, "08ced14ec5ebe1c94154d062f2fc329b8960c0e82a2aec6dd10a142bd1670f51"), looks := true }, kinds := [], alts := [], laidByText := true, laidKinds := [.data, .widerDeep, .data, .widerDeep], laidTests := true, laidLooks := .later }
def BoundNumbersUptoCardSaid : Prop := Claim7.holds Tryz.pinned (.plain (OpenSpec.upto boundNumbersSpec)) boundNumbersUptoCard

/-- THE SECOND FORM's CARD OF 'hostlerlaw28.ExploreApart'. -/
def exploreApartUptoCard : Claim7 := { stood := { row := exploreApartUptoRow, standIns := [], harness := (true, "08ced14ec5ebe1c94154d062f2fc329b8960c0e82a2aec6dd10a142bd1670f51"), looks := true }, kinds := [], alts := [], laidByText := true, laidKinds := [.data, .widerDeep, .data, .widerDeep], laidTests := true, laidLooks := .later }
def ExploreApartUptoCardSaid : Prop := Claim7.holds Tryz.pinned (.plain (OpenSpec.upto exploreApartSpec)) exploreApartUptoCard

/-- THE SECOND FORM's CARD OF 'hostlerlaw28.ExploreOrders'. -/
def exploreOrdersUptoCard : Claim7 := { stood := { row := exploreOrdersUptoRow, standIns := [], harness := (true, "08ced14ec5ebe1c94154d062f2fc329b8960c0e82a2aec6dd10a142bd1670f51"), looks := true }, kinds := [], alts := [], laidByText := true, laidKinds := [.data, .widerDeep, .data, .widerDeep], laidTests := true, laidLooks := .later }
def ExploreOrdersUptoCardSaid : Prop := Claim7.holds Tryz.pinned (.plain (OpenSpec.upto exploreOrdersSpec)) exploreOrdersUptoCard

/-- THE SECOND FORM's CARD OF 'hostlerlaw26.BoxedMust'. -/
def boxedMustUptoCard : Claim7 := { stood := { row := boxedMustUptoRow, standIns := [], harness := (true, "08ced14ec5ebe1c94154d062f2fc329b8960c0e82a2aec6dd10a142bd1670f51"), looks := true }, kinds := [], alts := [], laidByText := true, laidKinds := [.data, .widerDeep, .data, .widerDeep], laidTests := true, laidLooks := .later }
def BoxedMustUptoCardSaid : Prop := Claim7.holds Tryz.pinned (.plain (OpenSpec.upto boxedMustSpec)) boxedMustUptoCard

/-- THE SECOND FORM's CARD OF 'hostlerlaw20.WorldAgain'. -/
def worldAgainUptoCard : Claim7 := { stood := { row := worldAgainUptoRow, standIns := [], harness := (true, "08ced14ec5ebe1c94154d062f2fc329b8960c0e82a2aec6dd10a142bd1670f51"), looks := true }, kinds := [], alts := [], laidByText := true, laidKinds := [.data, .widerDeep, .data, .widerDeep], laidTests := true, laidLooks := .later }
def WorldAgainUptoCardSaid : Prop := Claim7.holds Tryz.pinned (.plain (OpenSpec.upto worldAgainSpec)) worldAgainUptoCard

/-- THE SECOND FORM's CARD OF 'hostlerlaw27.TallyJoins'. -/
def tallyJoinsUptoCard : Claim7 := { stood := { row := tallyJoinsUptoRow, standIns := [], harness := (true, "08ced14ec5ebe1c94154d062f2fc329b8960c0e82a2aec6dd10a142bd1670f51"), looks := true }, kinds := [], alts := [], laidByText := true, laidKinds := [.data, .widerDeep, .data, .widerDeep], laidTests := true, laidLooks := .later }
def TallyJoinsUptoCardSaid : Prop := Claim7.holds Tryz.pinned (.plain (OpenSpec.upto tallyJoinsSpec)) tallyJoinsUptoCard

/-- THE SECOND FORM's CARD OF 'hostlertop.TopRun'. -/
def topRunUptoCard : Claim7 := { stood := { row := topRunUptoRow, standIns := [], harness := (true, "08ced14ec5ebe1c94154d062f2fc329b8960c0e82a2aec6dd10a142bd1670f51"), looks := true }, kinds := [], alts := [], laidByText := true, laidKinds := [.data, .widerDeep, .data, .widerDeep], laidTests := true, laidLooks := .later }
def TopRunUptoCardSaid : Prop := Claim7.holds Tryz.pinned (.plain (OpenSpec.upto topRunSpec)) topRunUptoCard

/-- THE SECOND FORM's CARD OF 'hostlerlaw22.RoundHabits'. -/
def roundHabitsUptoCard : Claim7 := { stood := { row := roundHabitsUptoRow, standIns := [], harness := (true, "08ced14ec5ebe1c94154d062f2fc329b8960c0e82a2aec6dd10a142bd1670f51"), looks := true }, kinds := [], alts := [], laidByText := true, laidKinds := [.data, .widerDeep, .data, .widerDeep], laidTests := true, laidLooks := .later }
def RoundHabitsUptoCardSaid : Prop := Claim7.holds Tryz.pinned (.plain (OpenSpec.upto roundHabitsSpec)) roundHabitsUptoCard

/-- THE SECOND FORM's CARD OF 'hostlerlaw22.RoundUntil'. -/
def roundUntilUptoCard : Claim7 := { stood := { row := roundUntilUptoRow, standIns := [], harness := (true, "08ced14ec5ebe1c94154d062f2fc329b8960c0e82a2aec6dd10a142bd1670f51"), looks := true }, kinds := [], alts := [], laidByText := true, laidKinds := [.data, .widerDeep, .data, .widerDeep], laidTests := true, laidLooks := .later }
def RoundUntilUptoCardSaid : Prop := Claim7.holds Tryz.pinned (.plain (OpenSpec.upto roundUntilSpec)) roundUntilUptoCard

/-- THE SECOND FORM's CARD OF 'hostlerlaw22.RoundAll'. -/
def roundAllUptoCard : Claim7 := { stood := { row := roundAllUptoRow, standIns := [], harness := (true, "08ced14ec5ebe1c94154d062f2fc329b8960c0e82a2aec6dd10a142bd1670f51"), looks := true }, kinds := [], alts := [], laidByText := true, laidKinds := [.data, .widerDeep, .data, .widerDeep], laidTests := true, laidLooks := .later }
def RoundAllUptoCardSaid : Prop := Claim7.holds Tryz.pinned (.plain (OpenSpec.upto roundAllSpec)) roundAllUptoCard

/-- THE SECOND FORM's CARD OF 'hostlerlaw25.TraceNever'. -/
def traceNeverUptoCard : Claim7 := { stood := { row := traceNeverUptoRow, standIns := [], harness := (true, "08ced14ec5ebe1c94154d062f2fc329b8960c0e82a2aec6dd10a142bd1670f51"), looks := true }, kinds := [], alts := [], laidByText := true, laidKinds := [.data, .widerDeep, .data, .widerDeep], laidTests := true, laidLooks := .later }
def TraceNeverUptoCardSaid : Prop := Claim7.holds Tryz.pinned (.plain (OpenSpec.upto traceNeverSpec)) traceNeverUptoCard

/-- THE SECOND FORM's CARD OF 'hostlerlaw25.TraceTimes'. -/
def traceTimesUptoCard : Claim7 := { stood := { row := traceTimesUptoRow, standIns := [], harness := (true, "08ced14ec5ebe1c94154d062f2fc329b8960c0e82a2aec6dd10a142bd1670f51"), looks := true }, kinds := [], alts := [], laidByText := true, laidKinds := [.data, .widerDeep, .data, .widerDeep], laidTests := true, laidLooks := .later }
def TraceTimesUptoCardSaid : Prop := Claim7.holds Tryz.pinned (.plain (OpenSpec.upto traceTimesSpec)) traceTimesUptoCard

/-- THE SECOND FORM's CARD OF 'hostlerlaw25.TraceOrder'. -/
def traceOrderUptoCard : Claim7 := { stood := { row := traceOrderUptoRow, standIns := [], harness := (true, "08ced14ec5ebe1c94154d062f2fc329b8960c0e82a2aec6dd10a142bd1670f51"), looks := true }, kinds := [], alts := [], laidByText := true, laidKinds := [.data, .widerDeep, .data, .widerDeep], laidTests := true, laidLooks := .later }
def TraceOrderUptoCardSaid : Prop := Claim7.holds Tryz.pinned (.plain (OpenSpec.upto traceOrderSpec)) traceOrderUptoCard

/-- THE SECOND FORM's CARD OF 'hostlerlaw25.TraceFrom'. -/
def traceFromUptoCard : Claim7 := { stood := { row := traceFromUptoRow, standIns := [], harness := (true, "08ced14ec5ebe1c94154d062f2fc329b8960c0e82a2aec6dd10a142bd1670f51"), looks := true }, kinds := [], alts := [], laidByText := true, laidKinds := [.data, .widerDeep, .data, .widerDeep], laidTests := true, laidLooks := .later }
def TraceFromUptoCardSaid : Prop := Claim7.holds Tryz.pinned (.plain (OpenSpec.upto traceFromSpec)) traceFromUptoCard

/-- THE SECOND FORM's CARD OF 'hostlerlaw24.BoundDispatches'. -/
def boundDispatchesUptoCard : Claim7 := { stood := { row := boundDispatchesUptoRow, standIns := [], harness := (true, "08ced14ec5ebe1c94154d062f2fc329b8960c0e82a2aec6dd10a142bd1670f51"), looks := true }, kinds := [], alts := [], laidByText := true, laidKinds := [.data, .widerDeep, .data, .widerDeep], laidTests := true, laidLooks := .later }
def BoundDispatchesUptoCardSaid : Prop := Claim7.holds Tryz.pinned (.plain (OpenSpec.upto boundDispatchesSpec)) boundDispatchesUptoCard

/-- THE SECOND FORM's CARD OF 'hostlerlaw20.WorldConfigs'. -/
def worldConfigsUptoCard : Claim7 := { stood := { row := worldConfigsUptoRow, standIns := [], harness := (true, "08ced14ec5ebe1c94154d062f2fc329b8960c0e82a2aec6dd10a142bd1670f51"), looks := true }, kinds := [], alts := [], laidByText := true, laidKinds := [.data, .widerDeep, .data, .widerDeep], laidTests := true, laidLooks := .later }
def WorldConfigsUptoCardSaid : Prop := Claim7.holds Tryz.pinned (.plain (OpenSpec.upto worldConfigsSpec)) worldConfigsUptoCard

/-- THE SECOND FORM's CARD OF 'hostlerlaw20.WorldModel'. -/
def worldModelUptoCard : Claim7 := { stood := { row := worldModelUptoRow, standIns := [], harness := (true, "08ced14ec5ebe1c94154d062f2fc329b8960c0e82a2aec6dd10a142bd1670f51"), looks := true }, kinds := [], alts := [], laidByText := true, laidKinds := [.data, .widerDeep, .data, .widerDeep], laidTests := true, laidLooks := .later }
def WorldModelUptoCardSaid : Prop := Claim7.holds Tryz.pinned (.plain (OpenSpec.upto worldModelSpec)) worldModelUptoCard

/-- THE SECOND FORM's CARD OF 'hostlertop.TopOrders'. -/
def topOrdersUptoCard : Claim7 := { stood := { row := topOrdersUptoRow, standIns := [], harness := (true, "08ced14ec5ebe1c94154d062f2fc329b8960c0e82a2aec6dd10a142bd1670f51"), looks := true }, kinds := [], alts := [], laidByText := true, laidKinds := [.data, .data, .data, .widerDeep, .data, .widerDeep], laidTests := true, laidLooks := .later }
def TopOrdersUptoCardSaid : Prop := Claim7.holds Tryz.pinned (.plain (OpenSpec.upto topOrdersSpec)) topOrdersUptoCard

/-- THE SECOND FORM's CARD OF 'hostlerlaw24.BoundServes'. -/
def boundServesUptoCard : Claim7 := { stood := { row := boundServesUptoRow, standIns := [], harness := (true, "08ced14ec5ebe1c94154d062f2fc329b8960c0e82a2aec6dd10a142bd1670f51"), looks := true }, kinds := [], alts := [], laidByText := true, laidKinds := [.data, .widerDeep, .data, .widerDeep], laidTests := true, laidLooks := .later }
def BoundServesUptoCardSaid : Prop := Claim7.holds Tryz.pinned (.plain (OpenSpec.upto boundServesSpec)) boundServesUptoCard

/-- THE SECOND FORM's CARD OF 'hostlerlaw26.BoxedTexts'. -/
def boxedTextsUptoCard : Claim7 := { stood := { row := boxedTextsUptoRow, standIns := [], harness := (true, "08ced14ec5ebe1c94154d062f2fc329b8960c0e82a2aec6dd10a142bd1670f51"), looks := true }, kinds := [], alts := [], laidByText := true, laidKinds := [.data, .widerDeep, .data, .widerDeep], laidTests := true, laidLooks := .later }
def BoxedTextsUptoCardSaid : Prop := Claim7.holds Tryz.pinned (.plain (OpenSpec.upto boxedTextsSpec)) boxedTextsUptoCard
end Rows
end Go.Proofs.YtgjafaheglnheaaGreatDoor
