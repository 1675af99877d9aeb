/-
  DERIVED. GIVEN WITH THE SEED: THE PROGRAM's TIES (one call each: nine closed facts by the kernel) AND EACH ROW's TIE, after the 31st guide's Derived/Test/Toyas{Tie, Card}.lean. No idea stands in it: it is a product of the set-up. Laid BY PROGRAM, IN A SANDBOX (cutbox-door.mjs). By AI agents, Wed Nov 11 2026. No macro, syntax, notation, axiom, sorry.
-/
import Derived.Test.YtgjafaheglnheaaGreatDoorRows
import Derived.LaidByTextLater
import Derived.SevenTiedAt
import Derived.LaidSub
import Derived.LaidOnce
namespace Go.Proofs.YtgjafaheglnheaaGreatDoor
open Go
set_option maxRecDepth 100000
theorem seatTie1 : Tryz.prog.laidByTextLater [("math/bits.deBruijn32tab", Rows.laid_math_bits_deBruijn32tab), ("math/bits.deBruijn64tab", Rows.laid_math_bits_deBruijn64tab), ("internal/strconv.uint64pow10", Rows.laid_internal_strconv_uint64pow10), ("hostler/status.next", Rows.laid_hostler_status_next), ("hostler/event.all", Rows.laid_hostler_event_all), ("hostler/mach.places", Rows.laid_hostler_mach_places)] [.data, .data, .data, .widerDeep, .data, .widerDeep] true :=
  Program.laidByTextLater_by_one 85 8 65 (by kernel_rfl) (by kernel_rfl) (by kernel_rfl) (by kernel_rfl) (by kernel_rfl) (by kernel_rfl) (fun _ _ => by kernel_rfl)
theorem noOwnUnsafe : Tryz.pinned.checked.prog.headLifts.contains "ownunsafe" = false := by kernel_rfl
theorem tie : Tryz.prog.laidByTextLater [("math/bits.deBruijn64tab", Rows.laid_math_bits_deBruijn64tab), ("hostler/status.next", Rows.laid_hostler_status_next), ("hostler/event.all", Rows.laid_hostler_event_all), ("hostler/mach.places", Rows.laid_hostler_mach_places)] [.data, .widerDeep, .data, .widerDeep] true :=
  Program.laidByTextLater.sub seatTie1 ["math/bits.deBruijn64tab", "hostler/status.next", "hostler/event.all", "hostler/mach.places"] (by kernel_rfl) (by kernel_rfl)
theorem boundNumbers_row_tie : Rows.boundNumbersRow.laidByTextAt .later Tryz.pinned [.data, .widerDeep, .data, .widerDeep] true :=
  OpenClaim.laidByTextAt_later rfl rfl tie noOwnUnsafe
theorem exploreApart_row_tie : Rows.exploreApartRow.laidByTextAt .later Tryz.pinned [.data, .widerDeep, .data, .widerDeep] true :=
  OpenClaim.laidByTextAt_later rfl rfl tie noOwnUnsafe
theorem exploreOrders_row_tie : Rows.exploreOrdersRow.laidByTextAt .later Tryz.pinned [.data, .widerDeep, .data, .widerDeep] true :=
  OpenClaim.laidByTextAt_later rfl rfl tie noOwnUnsafe
theorem boxedMust_row_tie : Rows.boxedMustRow.laidByTextAt .later Tryz.pinned [.data, .widerDeep, .data, .widerDeep] true :=
  OpenClaim.laidByTextAt_later rfl rfl tie noOwnUnsafe
theorem worldAgain_row_tie : Rows.worldAgainRow.laidByTextAt .later Tryz.pinned [.data, .widerDeep, .data, .widerDeep] true :=
  OpenClaim.laidByTextAt_later rfl rfl tie noOwnUnsafe
theorem tallyJoins_row_tie : Rows.tallyJoinsRow.laidByTextAt .later Tryz.pinned [.data, .widerDeep, .data, .widerDeep] true :=
  OpenClaim.laidByTextAt_later rfl rfl tie noOwnUnsafe
theorem topRun_row_tie : Rows.topRunRow.laidByTextAt .later Tryz.pinned [.data, .widerDeep, .data, .widerDeep] true :=
  OpenClaim.laidByTextAt_later rfl rfl tie noOwnUnsafe
theorem roundHabits_row_tie : Rows.roundHabitsRow.laidByTextAt .later Tryz.pinned [.data, .widerDeep, .data, .widerDeep] true :=
  OpenClaim.laidByTextAt_later rfl rfl tie noOwnUnsafe
theorem roundUntil_row_tie : Rows.roundUntilRow.laidByTextAt .later Tryz.pinned [.data, .widerDeep, .data, .widerDeep] true :=
  OpenClaim.laidByTextAt_later rfl rfl tie noOwnUnsafe
theorem roundAll_row_tie : Rows.roundAllRow.laidByTextAt .later Tryz.pinned [.data, .widerDeep, .data, .widerDeep] true :=
  OpenClaim.laidByTextAt_later rfl rfl tie noOwnUnsafe
theorem traceNever_row_tie : Rows.traceNeverRow.laidByTextAt .later Tryz.pinned [.data, .widerDeep, .data, .widerDeep] true :=
  OpenClaim.laidByTextAt_later rfl rfl tie noOwnUnsafe
theorem traceTimes_row_tie : Rows.traceTimesRow.laidByTextAt .later Tryz.pinned [.data, .widerDeep, .data, .widerDeep] true :=
  OpenClaim.laidByTextAt_later rfl rfl tie noOwnUnsafe
theorem traceOrder_row_tie : Rows.traceOrderRow.laidByTextAt .later Tryz.pinned [.data, .widerDeep, .data, .widerDeep] true :=
  OpenClaim.laidByTextAt_later rfl rfl tie noOwnUnsafe
theorem traceFrom_row_tie : Rows.traceFromRow.laidByTextAt .later Tryz.pinned [.data, .widerDeep, .data, .widerDeep] true :=
  OpenClaim.laidByTextAt_later rfl rfl tie noOwnUnsafe
theorem boundDispatches_row_tie : Rows.boundDispatchesRow.laidByTextAt .later Tryz.pinned [.data, .widerDeep, .data, .widerDeep] true :=
  OpenClaim.laidByTextAt_later rfl rfl tie noOwnUnsafe
theorem worldConfigs_row_tie : Rows.worldConfigsRow.laidByTextAt .later Tryz.pinned [.data, .widerDeep, .data, .widerDeep] true :=
  OpenClaim.laidByTextAt_later rfl rfl tie noOwnUnsafe
theorem worldModel_row_tie : Rows.worldModelRow.laidByTextAt .later Tryz.pinned [.data, .widerDeep, .data, .widerDeep] true :=
  OpenClaim.laidByTextAt_later rfl rfl tie noOwnUnsafe
theorem boundServes_row_tie : Rows.boundServesRow.laidByTextAt .later Tryz.pinned [.data, .widerDeep, .data, .widerDeep] true :=
  OpenClaim.laidByTextAt_later rfl rfl tie noOwnUnsafe
theorem boxedTexts_row_tie : Rows.boxedTextsRow.laidByTextAt .later Tryz.pinned [.data, .widerDeep, .data, .widerDeep] true :=
  OpenClaim.laidByTextAt_later rfl rfl tie noOwnUnsafe
theorem tie2 : Tryz.prog.laidByTextLater [("math/bits.deBruijn32tab", Rows.laid_math_bits_deBruijn32tab), ("math/bits.deBruijn64tab", Rows.laid_math_bits_deBruijn64tab), ("internal/strconv.uint64pow10", Rows.laid_internal_strconv_uint64pow10), ("hostler/status.next", Rows.laid_hostler_status_next), ("hostler/event.all", Rows.laid_hostler_event_all), ("hostler/mach.places", Rows.laid_hostler_mach_places)] [.data, .data, .data, .widerDeep, .data, .widerDeep] true :=
  Program.laidByTextLater.sub seatTie1 ["math/bits.deBruijn32tab", "math/bits.deBruijn64tab", "internal/strconv.uint64pow10", "hostler/status.next", "hostler/event.all", "hostler/mach.places"] (by kernel_rfl) (by kernel_rfl)
theorem topOrders_row_tie : Rows.topOrdersRow.laidByTextAt .later Tryz.pinned [.data, .data, .data, .widerDeep, .data, .widerDeep] true :=
  OpenClaim.laidByTextAt_later rfl rfl tie2 noOwnUnsafe
theorem boundNumbersUpto_row_tie : Rows.boundNumbersUptoRow.laidByTextAt .later Tryz.pinned [.data, .widerDeep, .data, .widerDeep] true :=
  OpenClaim.laidByTextAt_later rfl rfl tie noOwnUnsafe
theorem exploreApartUpto_row_tie : Rows.exploreApartUptoRow.laidByTextAt .later Tryz.pinned [.data, .widerDeep, .data, .widerDeep] true :=
  OpenClaim.laidByTextAt_later rfl rfl tie noOwnUnsafe
theorem exploreOrdersUpto_row_tie : Rows.exploreOrdersUptoRow.laidByTextAt .later Tryz.pinned [.data, .widerDeep, .data, .widerDeep] true :=
  OpenClaim.laidByTextAt_later rfl rfl tie noOwnUnsafe
theorem boxedMustUpto_row_tie : Rows.boxedMustUptoRow.laidByTextAt .later Tryz.pinned [.data, .widerDeep, .data, .widerDeep] true :=
  OpenClaim.laidByTextAt_later rfl rfl tie noOwnUnsafe
theorem worldAgainUpto_row_tie : Rows.worldAgainUptoRow.laidByTextAt .later Tryz.pinned [.data, .widerDeep, .data, .widerDeep] true :=
  OpenClaim.laidByTextAt_later rfl rfl tie noOwnUnsafe
theorem tallyJoinsUpto_row_tie : Rows.tallyJoinsUptoRow.laidByTextAt .later Tryz.pinned [.data, .widerDeep, .data, .widerDeep] true :=
  OpenClaim.laidByTextAt_later rfl rfl tie noOwnUnsafe
theorem topRunUpto_row_tie : Rows.topRunUptoRow.laidByTextAt .later Tryz.pinned [.data, .widerDeep, .data, .widerDeep] true :=
  OpenClaim.laidByTextAt_later rfl rfl tie noOwnUnsafe
theorem roundHabitsUpto_row_tie : Rows.roundHabitsUptoRow.laidByTextAt .later Tryz.pinned [.data, .widerDeep, .data, .widerDeep] true :=
  OpenClaim.laidByTextAt_later rfl rfl tie noOwnUnsafe
theorem roundUntilUpto_row_tie : Rows.roundUntilUptoRow.laidByTextAt .later Tryz.pinned [.data, .widerDeep, .data, .widerDeep] true :=
  OpenClaim.laidByTextAt_later rfl rfl tie noOwnUnsafe
theorem roundAllUpto_row_tie : Rows.roundAllUptoRow.laidByTextAt .later Tryz.pinned [.data, .widerDeep, .data, .widerDeep] true :=
  OpenClaim.laidByTextAt_later rfl rfl tie noOwnUnsafe
theorem traceNeverUpto_row_tie : Rows.traceNeverUptoRow.laidByTextAt .later Tryz.pinned [.data, .widerDeep, .data, .widerDeep] true :=
  OpenClaim.laidByTextAt_later rfl rfl tie noOwnUnsafe
theorem traceTimesUpto_row_tie : Rows.traceTimesUptoRow.laidByTextAt .later Tryz.pinned [.data, .widerDeep, .data, .widerDeep] true :=
  OpenClaim.laidByTextAt_later rfl rfl tie noOwnUnsafe
theorem traceOrderUpto_row_tie : Rows.traceOrderUptoRow.laidByTextAt .later Tryz.pinned [.data, .widerDeep, .data, .widerDeep] true :=
  OpenClaim.laidByTextAt_later rfl rfl tie noOwnUnsafe
theorem traceFromUpto_row_tie : Rows.traceFromUptoRow.laidByTextAt .later Tryz.pinned [.data, .widerDeep, .data, .widerDeep] true :=
  OpenClaim.laidByTextAt_later rfl rfl tie noOwnUnsafe
theorem boundDispatchesUpto_row_tie : Rows.boundDispatchesUptoRow.laidByTextAt .later Tryz.pinned [.data, .widerDeep, .data, .widerDeep] true :=
  OpenClaim.laidByTextAt_later rfl rfl tie noOwnUnsafe
theorem worldConfigsUpto_row_tie : Rows.worldConfigsUptoRow.laidByTextAt .later Tryz.pinned [.data, .widerDeep, .data, .widerDeep] true :=
  OpenClaim.laidByTextAt_later rfl rfl tie noOwnUnsafe
theorem worldModelUpto_row_tie : Rows.worldModelUptoRow.laidByTextAt .later Tryz.pinned [.data, .widerDeep, .data, .widerDeep] true :=
  OpenClaim.laidByTextAt_later rfl rfl tie noOwnUnsafe
theorem topOrdersUpto_row_tie : Rows.topOrdersUptoRow.laidByTextAt .later Tryz.pinned [.data, .data, .data, .widerDeep, .data, .widerDeep] true :=
  OpenClaim.laidByTextAt_later rfl rfl tie2 noOwnUnsafe
theorem boundServesUpto_row_tie : Rows.boundServesUptoRow.laidByTextAt .later Tryz.pinned [.data, .widerDeep, .data, .widerDeep] true :=
  OpenClaim.laidByTextAt_later rfl rfl tie noOwnUnsafe
theorem boxedTextsUpto_row_tie : Rows.boxedTextsUptoRow.laidByTextAt .later Tryz.pinned [.data, .widerDeep, .data, .widerDeep] true :=
  OpenClaim.laidByTextAt_later rfl rfl tie noOwnUnsafe
end Go.Proofs.YtgjafaheglnheaaGreatDoor
