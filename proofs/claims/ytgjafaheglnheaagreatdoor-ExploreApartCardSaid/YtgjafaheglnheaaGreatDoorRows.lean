/-
  NARROWER THAN 'FOR EVERY INPUT', by the rows' own cells (each row's printed sentence says how): BoundNumbers: laid · ExploreApart: laid · ExploreOrders: laid · BoxedMust: laid · WorldAgain: laid · TallyJoins: laid · TopRun: laid · RoundHabits: laid · RoundUntil: laid · RoundAll: laid · TraceNever: laid · TraceTimes: laid · TraceOrder: laid · TraceFrom: laid · BoundDispatches: laid · WorldConfigs: laid · WorldModel: laid · TopOrders: laid · BoundServes: laid · BoxedTexts: laid.
  DERIVED. THE GIVEN ROWS OF THIS SEAT. 20 by the template 'for every input the law returns true; each argument reads behind the call as it read before'; 0 by the template 'total and deterministic' (their statements: YtgjafaheglnheaaGreatDoorTotals.lean).
  GIVEN WITH THE SEED: the statements are not yours to turn. If you find one false, say at which input.
  Laid BY PROGRAM, IN A SANDBOX (cutbox-rows.mjs): the forced cells as the released guide's own fill.sh prints them over the translation d02b6b73311f016d… (all of the seat's roots in one cut). By AI agents, Wed Nov 11 2026. No macro, syntax, notation, axiom, sorry.
-/
import Derived.Test.YtgjafaheglnheaaGreatDoorChecked
import GoSem.Claim
import GoSem.ClaimJoined
import GoSem.ClaimMapViews
import Derived.JoinedTies
import Derived.KernelRfl
namespace Go.Proofs.YtgjafaheglnheaaGreatDoor
/- THE CELL 'sum', in the pinned program and in every row, IS THE sha256 OF THE DUMP (.gsa) THAT YtgjafaheglnheaaGreatDoorProg.lean LOADS. Nothing in Lean hashes anything: it is a label: what it is worth is what the hold of that sum in a sandbox is worth. -/
noncomputable def Tryz.pinned : Pinned := { name := "ytgjafaheglnheaagreatdoor", sum := "d02b6b73311f016d3ea5b172867e75a9479110a09865668deab32cab7a722547", checked := Tryz.checked }
namespace Rows
def none {H : Type} : Left H := { results := [], args := [] }

/- WHAT THE LISTED PACKAGE-LEVEL VARIABLES READ AS WHEN THE CALL BEGINS. Each datum BY PROGRAM (the guide's laid-datum.mjs) off the statement by which the dump's own 'gosem.cut.vars' lays the variable. In a bare row this is a premise. The card (YtgjafaheglnheaaGreatDoorCards.lean) ties it to the program's text. -/
def laid_math_bits_deBruijn64tab {H : Type} : DataW H := .agg [.lit (.int .u8 0), .lit (.int .u8 1), .lit (.int .u8 56), .lit (.int .u8 2), .lit (.int .u8 57), .lit (.int .u8 49), .lit (.int .u8 28), .lit (.int .u8 3), .lit (.int .u8 61), .lit (.int .u8 58), .lit (.int .u8 42), .lit (.int .u8 50), .lit (.int .u8 38), .lit (.int .u8 29), .lit (.int .u8 17), .lit (.int .u8 4), .lit (.int .u8 62), .lit (.int .u8 47), .lit (.int .u8 59), .lit (.int .u8 36), .lit (.int .u8 45), .lit (.int .u8 43), .lit (.int .u8 51), .lit (.int .u8 22), .lit (.int .u8 53), .lit (.int .u8 39), .lit (.int .u8 33), .lit (.int .u8 30), .lit (.int .u8 24), .lit (.int .u8 18), .lit (.int .u8 12), .lit (.int .u8 5), .lit (.int .u8 63), .lit (.int .u8 55), .lit (.int .u8 48), .lit (.int .u8 27), .lit (.int .u8 60), .lit (.int .u8 41), .lit (.int .u8 37), .lit (.int .u8 16), .lit (.int .u8 46), .lit (.int .u8 35), .lit (.int .u8 44), .lit (.int .u8 21), .lit (.int .u8 52), .lit (.int .u8 32), .lit (.int .u8 23), .lit (.int .u8 11), .lit (.int .u8 54), .lit (.int .u8 26), .lit (.int .u8 40), .lit (.int .u8 15), .lit (.int .u8 34), .lit (.int .u8 20), .lit (.int .u8 31), .lit (.int .u8 10), .lit (.int .u8 25), .lit (.int .u8 14), .lit (.int .u8 19), .lit (.int .u8 9), .lit (.int .u8 13), .lit (.int .u8 8), .lit (.int .u8 7), .lit (.int .u8 6)]
def laid_hostler_status_next {H : Type} : DataW H := .agg [.slice [.lit (.int .u64 1)] [], .slice [.lit (.int .u64 2)] [], .slice [.lit (.int .u64 1), .lit (.int .u64 3), .lit (.int .u64 4), .lit (.int .u64 5), .lit (.int .u64 6)] [], .slice [.lit (.int .u64 1)] [], .slice [.lit (.int .u64 1)] [], .slice [.lit (.int .u64 1)] [], .slice [] []]
def laid_hostler_event_all {H : Type} : DataW H := .agg [.agg [.lit (.string [115, 112, 97, 119, 110]), .lit (.int .u64 0), .lit (.int .u64 1)], .agg [.lit (.string [114, 101, 97, 100, 121]), .lit (.int .u64 0), .lit (.int .u64 1)], .agg [.lit (.string [100, 105, 115, 112, 97, 116, 99, 104]), .lit (.int .u64 1), .lit (.int .u64 2)], .agg [.lit (.string [121, 105, 101, 108, 100]), .lit (.int .u64 2), .lit (.int .u64 1)], .agg [.lit (.string [98, 108, 111, 99, 107]), .lit (.int .u64 2), .lit (.int .u64 3)], .agg [.lit (.string [115, 108, 101, 101, 112]), .lit (.int .u64 2), .lit (.int .u64 4)], .agg [.lit (.string [119, 97, 105, 116]), .lit (.int .u64 2), .lit (.int .u64 5)], .agg [.lit (.string [101, 120, 105, 116]), .lit (.int .u64 2), .lit (.int .u64 6)]]
def laid_hostler_mach_places {H : Type} : DataW H := .agg [.agg [.lit (.string [101, 120, 101, 99]), .lit (.int .i64 0)], .agg [.lit (.string [115, 99, 104, 101, 100]), .lit (.int .i64 0)], .agg [.lit (.string [111, 110, 101]), .lit (.int .i64 1)], .agg [.lit (.string [108, 111, 99, 97, 108]), .lit (.int .i64 2)], .agg [.lit (.string [103, 108, 111, 98, 97, 108]), .lit (.int .i64 1)], .agg [.lit (.string [115, 112, 105, 110, 117, 112]), .lit (.int .i64 0)], .agg [.lit (.string [115, 116, 101, 97, 108]), .lit (.int .i64 3)], .agg [.lit (.string [114, 101, 108, 101, 97, 115, 101]), .lit (.int .i64 1)], .agg [.lit (.string [100, 114, 111, 112]), .lit (.int .i64 0)], .agg [.lit (.string [108, 111, 111, 107]), .lit (.int .i64 4)], .agg [.lit (.string [108, 111, 111, 107, 103, 108, 111, 98, 97, 108]), .lit (.int .i64 1)], .agg [.lit (.string [114, 101, 116, 97, 107, 101]), .lit (.int .i64 1)], .agg [.lit (.string [115, 112, 105, 110, 98, 97, 99, 107]), .lit (.int .i64 0)], .agg [.lit (.string [115, 116, 111, 112]), .lit (.int .i64 1)], .agg [.lit (.string [99, 104, 101, 99, 107]), .lit (.int .i64 5)], .agg [.lit (.string [117, 110, 112, 111, 108, 108]), .lit (.int .i64 1)], .agg [.lit (.string [115, 108, 101, 101, 112]), .lit (.int .i64 0)], .agg [.lit (.string [112, 117, 116, 114, 101, 115, 116]), .lit (.int .i64 2)], .agg [.lit (.string [112, 117, 116, 111, 118, 101, 114]), .lit (.int .i64 1)], .agg [.lit (.string [117, 110, 115, 112, 105, 110]), .lit (.int .i64 0)], .agg [.lit (.string [100, 105, 115, 112, 97, 116, 99, 104]), .lit (.int .i64 0)], .agg [.lit (.string [108, 111, 97, 100]), .lit (.int .i64 0)], .agg [.lit (.string [99, 108, 97, 105, 109]), .lit (.int .i64 0)], .agg [.lit (.string [102, 105, 110, 100]), .lit (.int .i64 1)], .agg [.lit (.string [119, 97, 107, 101]), .lit (.int .i64 0)], .agg [.lit (.string [100, 101, 108, 105, 118, 101, 114]), .lit (.int .i64 5)], .agg [.lit (.string [109, 97, 114, 107]), .lit (.int .i64 0)], .agg [.lit (.string [112, 117, 116, 111, 110, 101]), .lit (.int .i64 1)], .agg [.lit (.string [112, 117, 116, 110, 101, 120, 116]), .lit (.int .i64 2)], .agg [.lit (.string [112, 97, 114, 107]), .lit (.int .i64 5)], .agg [.lit (.string [97, 119, 97, 105, 116]), .lit (.int .i64 5)]]
def laid_math_bits_deBruijn32tab {H : Type} : DataW H := .agg [.lit (.int .u8 0), .lit (.int .u8 1), .lit (.int .u8 28), .lit (.int .u8 2), .lit (.int .u8 29), .lit (.int .u8 14), .lit (.int .u8 24), .lit (.int .u8 3), .lit (.int .u8 30), .lit (.int .u8 22), .lit (.int .u8 20), .lit (.int .u8 15), .lit (.int .u8 25), .lit (.int .u8 17), .lit (.int .u8 4), .lit (.int .u8 8), .lit (.int .u8 31), .lit (.int .u8 27), .lit (.int .u8 13), .lit (.int .u8 23), .lit (.int .u8 21), .lit (.int .u8 19), .lit (.int .u8 16), .lit (.int .u8 7), .lit (.int .u8 26), .lit (.int .u8 12), .lit (.int .u8 18), .lit (.int .u8 6), .lit (.int .u8 11), .lit (.int .u8 5), .lit (.int .u8 10), .lit (.int .u8 9)]
def laid_internal_strconv_uint64pow10 {H : Type} : DataW H := .agg [.lit (.int .u64 1), .lit (.int .u64 10), .lit (.int .u64 100), .lit (.int .u64 1000), .lit (.int .u64 10000), .lit (.int .u64 100000), .lit (.int .u64 1000000), .lit (.int .u64 10000000), .lit (.int .u64 100000000), .lit (.int .u64 1000000000), .lit (.int .u64 10000000000), .lit (.int .u64 100000000000), .lit (.int .u64 1000000000000), .lit (.int .u64 10000000000000), .lit (.int .u64 100000000000000), .lit (.int .u64 1000000000000000), .lit (.int .u64 10000000000000000), .lit (.int .u64 100000000000000000), .lit (.int .u64 1000000000000000000), .lit (.int .u64 10000000000000000000)]

/-- 'hostlerlaw24.BoundNumbers': WHATEVER THE INPUT: true; the input reads as it did. -/
def boundNumbersSpec : ChangeSpec := { name := "boundNumbers", fn := fun _ => fun
  | [d1, d2, d3, d4] => { results := [.lit (.bool true)], args := [d1, d2, d3, d4] }
  | _ => none }
def boundNumbersRow : OpenClaim := { program := "ytgjafaheglnheaagreatdoor", sum := "d02b6b73311f016d3ea5b172867e75a9479110a09865668deab32cab7a722547", func := "hostler/hostlerlaw24.BoundNumbers", spec := "boundNumbers", unfollowed := true, recurses := true, named := ["hostler/status.next", "hostler/event.all", "hostler/mach.places", "math/bits.deBruijn64tab"], plainKeys := false, apart := false, laid := [("math/bits.deBruijn64tab", laid_math_bits_deBruijn64tab), ("hostler/status.next", laid_hostler_status_next), ("hostler/event.all", laid_hostler_event_all), ("hostler/mach.places", laid_hostler_mach_places)] }
def BoundNumbersSaid : Prop := boundNumbersRow.holds Tryz.pinned (OpenSpec.ofChange boundNumbersSpec)

/-- ITS FALSE NEIGHBOUR: 'it returns false'. Refute it at one input. -/
def boundNumbersWrong : ChangeSpec := { name := "boundNumbers", fn := fun _ => fun
  | [d1, d2, d3, d4] => { results := [.lit (.bool false)], args := [d1, d2, d3, d4] }
  | _ => none }
def BoundNumbersWrongFalsely : Prop := boundNumbersRow.holds Tryz.pinned (OpenSpec.ofChange boundNumbersWrong)

/-- 'hostlerlaw28.ExploreApart': WHATEVER THE INPUT: true; the input reads as it did. -/
def exploreApartSpec : ChangeSpec := { name := "exploreApart", fn := fun _ => fun
  | [d1, d2] => { results := [.lit (.bool true)], args := [d1, d2] }
  | _ => none }
def exploreApartRow : OpenClaim := { program := "ytgjafaheglnheaagreatdoor", sum := "d02b6b73311f016d3ea5b172867e75a9479110a09865668deab32cab7a722547", func := "hostler/hostlerlaw28.ExploreApart", spec := "exploreApart", unfollowed := true, recurses := true, named := ["hostler/status.next", "hostler/event.all", "hostler/mach.places", "math/bits.deBruijn64tab"], plainKeys := false, apart := false, laid := [("math/bits.deBruijn64tab", laid_math_bits_deBruijn64tab), ("hostler/status.next", laid_hostler_status_next), ("hostler/event.all", laid_hostler_event_all), ("hostler/mach.places", laid_hostler_mach_places)] }
def ExploreApartSaid : Prop := exploreApartRow.holds Tryz.pinned (OpenSpec.ofChange exploreApartSpec)

/-- ITS FALSE NEIGHBOUR: 'it returns false'. Refute it at one input. -/
def exploreApartWrong : ChangeSpec := { name := "exploreApart", fn := fun _ => fun
  | [d1, d2] => { results := [.lit (.bool false)], args := [d1, d2] }
  | _ => none }
def ExploreApartWrongFalsely : Prop := exploreApartRow.holds Tryz.pinned (OpenSpec.ofChange exploreApartWrong)

/-- 'hostlerlaw28.ExploreOrders': WHATEVER THE INPUT: true; the input reads as it did. -/
def exploreOrdersSpec : ChangeSpec := { name := "exploreOrders", fn := fun _ => fun
  | [d1, d2, d3] => { results := [.lit (.bool true)], args := [d1, d2, d3] }
  | _ => none }
def exploreOrdersRow : OpenClaim := { program := "ytgjafaheglnheaagreatdoor", sum := "d02b6b73311f016d3ea5b172867e75a9479110a09865668deab32cab7a722547", func := "hostler/hostlerlaw28.ExploreOrders", spec := "exploreOrders", unfollowed := true, recurses := true, named := ["hostler/status.next", "hostler/event.all", "hostler/mach.places", "math/bits.deBruijn64tab"], plainKeys := false, apart := false, laid := [("math/bits.deBruijn64tab", laid_math_bits_deBruijn64tab), ("hostler/status.next", laid_hostler_status_next), ("hostler/event.all", laid_hostler_event_all), ("hostler/mach.places", laid_hostler_mach_places)] }
def ExploreOrdersSaid : Prop := exploreOrdersRow.holds Tryz.pinned (OpenSpec.ofChange exploreOrdersSpec)

/-- ITS FALSE NEIGHBOUR: 'it returns false'. Refute it at one input. -/
def exploreOrdersWrong : ChangeSpec := { name := "exploreOrders", fn := fun _ => fun
  | [d1, d2, d3] => { results := [.lit (.bool false)], args := [d1, d2, d3] }
  | _ => none }
def ExploreOrdersWrongFalsely : Prop := exploreOrdersRow.holds Tryz.pinned (OpenSpec.ofChange exploreOrdersWrong)

/-- 'hostlerlaw26.BoxedMust': WHATEVER THE INPUT: true; the input reads as it did. -/
def boxedMustSpec : ChangeSpec := { name := "boxedMust", fn := fun _ => fun
  | [d] => { results := [.lit (.bool true)], args := [d] }
  | _ => none }
def boxedMustRow : OpenClaim := { program := "ytgjafaheglnheaagreatdoor", sum := "d02b6b73311f016d3ea5b172867e75a9479110a09865668deab32cab7a722547", func := "hostler/hostlerlaw26.BoxedMust", spec := "boxedMust", unfollowed := true, recurses := true, named := ["hostler/status.next", "hostler/event.all", "hostler/mach.places", "math/bits.deBruijn64tab"], plainKeys := false, apart := false, laid := [("math/bits.deBruijn64tab", laid_math_bits_deBruijn64tab), ("hostler/status.next", laid_hostler_status_next), ("hostler/event.all", laid_hostler_event_all), ("hostler/mach.places", laid_hostler_mach_places)] }
def BoxedMustSaid : Prop := boxedMustRow.holds Tryz.pinned (OpenSpec.ofChange boxedMustSpec)

/-- ITS FALSE NEIGHBOUR: 'it returns false'. Refute it at one input. -/
def boxedMustWrong : ChangeSpec := { name := "boxedMust", fn := fun _ => fun
  | [d] => { results := [.lit (.bool false)], args := [d] }
  | _ => none }
def BoxedMustWrongFalsely : Prop := boxedMustRow.holds Tryz.pinned (OpenSpec.ofChange boxedMustWrong)

/-- 'hostlerlaw20.WorldAgain': WHATEVER THE INPUT: true; the input reads as it did. -/
def worldAgainSpec : ChangeSpec := { name := "worldAgain", fn := fun _ => fun
  | [d1, d2, d3, d4] => { results := [.lit (.bool true)], args := [d1, d2, d3, d4] }
  | _ => none }
def worldAgainRow : OpenClaim := { program := "ytgjafaheglnheaagreatdoor", sum := "d02b6b73311f016d3ea5b172867e75a9479110a09865668deab32cab7a722547", func := "hostler/hostlerlaw20.WorldAgain", spec := "worldAgain", unfollowed := true, recurses := true, named := ["hostler/status.next", "hostler/event.all", "hostler/mach.places", "math/bits.deBruijn64tab"], plainKeys := false, apart := false, laid := [("math/bits.deBruijn64tab", laid_math_bits_deBruijn64tab), ("hostler/status.next", laid_hostler_status_next), ("hostler/event.all", laid_hostler_event_all), ("hostler/mach.places", laid_hostler_mach_places)] }
def WorldAgainSaid : Prop := worldAgainRow.holds Tryz.pinned (OpenSpec.ofChange worldAgainSpec)

/-- ITS FALSE NEIGHBOUR: 'it returns false'. Refute it at one input. -/
def worldAgainWrong : ChangeSpec := { name := "worldAgain", fn := fun _ => fun
  | [d1, d2, d3, d4] => { results := [.lit (.bool false)], args := [d1, d2, d3, d4] }
  | _ => none }
def WorldAgainWrongFalsely : Prop := worldAgainRow.holds Tryz.pinned (OpenSpec.ofChange worldAgainWrong)

/-- 'hostlerlaw27.TallyJoins': WHATEVER THE INPUT: true; the input reads as it did. -/
def tallyJoinsSpec : ChangeSpec := { name := "tallyJoins", fn := fun _ => fun
  | [d1, d2, d3] => { results := [.lit (.bool true)], args := [d1, d2, d3] }
  | _ => none }
def tallyJoinsRow : OpenClaim := { program := "ytgjafaheglnheaagreatdoor", sum := "d02b6b73311f016d3ea5b172867e75a9479110a09865668deab32cab7a722547", func := "hostler/hostlerlaw27.TallyJoins", spec := "tallyJoins", unfollowed := true, recurses := true, named := ["hostler/status.next", "hostler/event.all", "hostler/mach.places", "math/bits.deBruijn64tab"], plainKeys := false, apart := false, laid := [("math/bits.deBruijn64tab", laid_math_bits_deBruijn64tab), ("hostler/status.next", laid_hostler_status_next), ("hostler/event.all", laid_hostler_event_all), ("hostler/mach.places", laid_hostler_mach_places)] }
def TallyJoinsSaid : Prop := tallyJoinsRow.holds Tryz.pinned (OpenSpec.ofChange tallyJoinsSpec)

/-- ITS FALSE NEIGHBOUR: 'it returns false'. Refute it at one input. -/
def tallyJoinsWrong : ChangeSpec := { name := "tallyJoins", fn := fun _ => fun
  | [d1, d2, d3] => { results := [.lit (.bool false)], args := [d1, d2, d3] }
  | _ => none }
def TallyJoinsWrongFalsely : Prop := tallyJoinsRow.holds Tryz.pinned (OpenSpec.ofChange tallyJoinsWrong)

/-- 'hostlertop.TopRun': WHATEVER THE INPUT: true; the input reads as it did. -/
def topRunSpec : ChangeSpec := { name := "topRun", fn := fun _ => fun
  | [d1, d2, d3, d4] => { results := [.lit (.bool true)], args := [d1, d2, d3, d4] }
  | _ => none }
def topRunRow : OpenClaim := { program := "ytgjafaheglnheaagreatdoor", sum := "d02b6b73311f016d3ea5b172867e75a9479110a09865668deab32cab7a722547", func := "hostler/hostlertop.TopRun", spec := "topRun", inPlace := ["maps.clone"], unfollowed := true, recurses := true, named := ["hostler/status.next", "hostler/event.all", "hostler/mach.places", "math/bits.deBruijn64tab"], plainKeys := false, apart := false, laid := [("math/bits.deBruijn64tab", laid_math_bits_deBruijn64tab), ("hostler/status.next", laid_hostler_status_next), ("hostler/event.all", laid_hostler_event_all), ("hostler/mach.places", laid_hostler_mach_places)] }
def TopRunSaid : Prop := topRunRow.holds Tryz.pinned (OpenSpec.ofChange topRunSpec)

/-- ITS FALSE NEIGHBOUR: 'it returns false'. Refute it at one input. -/
def topRunWrong : ChangeSpec := { name := "topRun", fn := fun _ => fun
  | [d1, d2, d3, d4] => { results := [.lit (.bool false)], args := [d1, d2, d3, d4] }
  | _ => none }
def TopRunWrongFalsely : Prop := topRunRow.holds Tryz.pinned (OpenSpec.ofChange topRunWrong)

/-- 'hostlerlaw22.RoundHabits': WHATEVER THE INPUT: true; the input reads as it did. -/
def roundHabitsSpec : ChangeSpec := { name := "roundHabits", fn := fun _ => fun
  | [d1, d2, d3, d4, d5] => { results := [.lit (.bool true)], args := [d1, d2, d3, d4, d5] }
  | _ => none }
def roundHabitsRow : OpenClaim := { program := "ytgjafaheglnheaagreatdoor", sum := "d02b6b73311f016d3ea5b172867e75a9479110a09865668deab32cab7a722547", func := "hostler/hostlerlaw22.RoundHabits", spec := "roundHabits", unfollowed := true, recurses := true, named := ["hostler/status.next", "hostler/event.all", "hostler/mach.places", "math/bits.deBruijn64tab"], plainKeys := false, apart := false, laid := [("math/bits.deBruijn64tab", laid_math_bits_deBruijn64tab), ("hostler/status.next", laid_hostler_status_next), ("hostler/event.all", laid_hostler_event_all), ("hostler/mach.places", laid_hostler_mach_places)] }
def RoundHabitsSaid : Prop := roundHabitsRow.holds Tryz.pinned (OpenSpec.ofChange roundHabitsSpec)

/-- ITS FALSE NEIGHBOUR: 'it returns false'. Refute it at one input. -/
def roundHabitsWrong : ChangeSpec := { name := "roundHabits", fn := fun _ => fun
  | [d1, d2, d3, d4, d5] => { results := [.lit (.bool false)], args := [d1, d2, d3, d4, d5] }
  | _ => none }
def RoundHabitsWrongFalsely : Prop := roundHabitsRow.holds Tryz.pinned (OpenSpec.ofChange roundHabitsWrong)

/-- 'hostlerlaw22.RoundUntil': WHATEVER THE INPUT: true; the input reads as it did. -/
def roundUntilSpec : ChangeSpec := { name := "roundUntil", fn := fun _ => fun
  | [d1, d2, d3, d4, d5, d6] => { results := [.lit (.bool true)], args := [d1, d2, d3, d4, d5, d6] }
  | _ => none }
def roundUntilRow : OpenClaim := { program := "ytgjafaheglnheaagreatdoor", sum := "d02b6b73311f016d3ea5b172867e75a9479110a09865668deab32cab7a722547", func := "hostler/hostlerlaw22.RoundUntil", spec := "roundUntil", unfollowed := true, recurses := true, named := ["hostler/status.next", "hostler/event.all", "hostler/mach.places", "math/bits.deBruijn64tab"], plainKeys := false, apart := false, laid := [("math/bits.deBruijn64tab", laid_math_bits_deBruijn64tab), ("hostler/status.next", laid_hostler_status_next), ("hostler/event.all", laid_hostler_event_all), ("hostler/mach.places", laid_hostler_mach_places)] }
def RoundUntilSaid : Prop := roundUntilRow.holds Tryz.pinned (OpenSpec.ofChange roundUntilSpec)

/-- ITS FALSE NEIGHBOUR: 'it returns false'. Refute it at one input. -/
def roundUntilWrong : ChangeSpec := { name := "roundUntil", fn := fun _ => fun
  | [d1, d2, d3, d4, d5, d6] => { results := [.lit (.bool false)], args := [d1, d2, d3, d4, d5, d6] }
  | _ => none }
def RoundUntilWrongFalsely : Prop := roundUntilRow.holds Tryz.pinned (OpenSpec.ofChange roundUntilWrong)

/-- 'hostlerlaw22.RoundAll': WHATEVER THE INPUT: true; the input reads as it did. -/
def roundAllSpec : ChangeSpec := { name := "roundAll", fn := fun _ => fun
  | [d1, d2, d3, d4] => { results := [.lit (.bool true)], args := [d1, d2, d3, d4] }
  | _ => none }
def roundAllRow : OpenClaim := { program := "ytgjafaheglnheaagreatdoor", sum := "d02b6b73311f016d3ea5b172867e75a9479110a09865668deab32cab7a722547", func := "hostler/hostlerlaw22.RoundAll", spec := "roundAll", unfollowed := true, recurses := true, named := ["hostler/status.next", "hostler/event.all", "hostler/mach.places", "math/bits.deBruijn64tab"], plainKeys := false, apart := false, laid := [("math/bits.deBruijn64tab", laid_math_bits_deBruijn64tab), ("hostler/status.next", laid_hostler_status_next), ("hostler/event.all", laid_hostler_event_all), ("hostler/mach.places", laid_hostler_mach_places)] }
def RoundAllSaid : Prop := roundAllRow.holds Tryz.pinned (OpenSpec.ofChange roundAllSpec)

/-- ITS FALSE NEIGHBOUR: 'it returns false'. Refute it at one input. -/
def roundAllWrong : ChangeSpec := { name := "roundAll", fn := fun _ => fun
  | [d1, d2, d3, d4] => { results := [.lit (.bool false)], args := [d1, d2, d3, d4] }
  | _ => none }
def RoundAllWrongFalsely : Prop := roundAllRow.holds Tryz.pinned (OpenSpec.ofChange roundAllWrong)

/-- 'hostlerlaw25.TraceNever': WHATEVER THE INPUT: true; the input reads as it did. -/
def traceNeverSpec : ChangeSpec := { name := "traceNever", fn := fun _ => fun
  | [d1, d2, d3, d4] => { results := [.lit (.bool true)], args := [d1, d2, d3, d4] }
  | _ => none }
def traceNeverRow : OpenClaim := { program := "ytgjafaheglnheaagreatdoor", sum := "d02b6b73311f016d3ea5b172867e75a9479110a09865668deab32cab7a722547", func := "hostler/hostlerlaw25.TraceNever", spec := "traceNever", inPlace := ["maps.clone"], unfollowed := true, recurses := true, named := ["hostler/status.next", "hostler/event.all", "hostler/mach.places", "math/bits.deBruijn64tab"], plainKeys := false, apart := false, laid := [("math/bits.deBruijn64tab", laid_math_bits_deBruijn64tab), ("hostler/status.next", laid_hostler_status_next), ("hostler/event.all", laid_hostler_event_all), ("hostler/mach.places", laid_hostler_mach_places)] }
def TraceNeverSaid : Prop := traceNeverRow.holds Tryz.pinned (OpenSpec.ofChange traceNeverSpec)

/-- ITS FALSE NEIGHBOUR: 'it returns false'. Refute it at one input. -/
def traceNeverWrong : ChangeSpec := { name := "traceNever", fn := fun _ => fun
  | [d1, d2, d3, d4] => { results := [.lit (.bool false)], args := [d1, d2, d3, d4] }
  | _ => none }
def TraceNeverWrongFalsely : Prop := traceNeverRow.holds Tryz.pinned (OpenSpec.ofChange traceNeverWrong)

/-- 'hostlerlaw25.TraceTimes': WHATEVER THE INPUT: true; the input reads as it did. -/
def traceTimesSpec : ChangeSpec := { name := "traceTimes", fn := fun _ => fun
  | [d1, d2, d3, d4] => { results := [.lit (.bool true)], args := [d1, d2, d3, d4] }
  | _ => none }
def traceTimesRow : OpenClaim := { program := "ytgjafaheglnheaagreatdoor", sum := "d02b6b73311f016d3ea5b172867e75a9479110a09865668deab32cab7a722547", func := "hostler/hostlerlaw25.TraceTimes", spec := "traceTimes", inPlace := ["maps.clone"], unfollowed := true, recurses := true, named := ["hostler/status.next", "hostler/event.all", "hostler/mach.places", "math/bits.deBruijn64tab"], plainKeys := false, apart := false, laid := [("math/bits.deBruijn64tab", laid_math_bits_deBruijn64tab), ("hostler/status.next", laid_hostler_status_next), ("hostler/event.all", laid_hostler_event_all), ("hostler/mach.places", laid_hostler_mach_places)] }
def TraceTimesSaid : Prop := traceTimesRow.holds Tryz.pinned (OpenSpec.ofChange traceTimesSpec)

/-- ITS FALSE NEIGHBOUR: 'it returns false'. Refute it at one input. -/
def traceTimesWrong : ChangeSpec := { name := "traceTimes", fn := fun _ => fun
  | [d1, d2, d3, d4] => { results := [.lit (.bool false)], args := [d1, d2, d3, d4] }
  | _ => none }
def TraceTimesWrongFalsely : Prop := traceTimesRow.holds Tryz.pinned (OpenSpec.ofChange traceTimesWrong)

/-- 'hostlerlaw25.TraceOrder': WHATEVER THE INPUT: true; the input reads as it did. -/
def traceOrderSpec : ChangeSpec := { name := "traceOrder", fn := fun _ => fun
  | [d1, d2, d3, d4] => { results := [.lit (.bool true)], args := [d1, d2, d3, d4] }
  | _ => none }
def traceOrderRow : OpenClaim := { program := "ytgjafaheglnheaagreatdoor", sum := "d02b6b73311f016d3ea5b172867e75a9479110a09865668deab32cab7a722547", func := "hostler/hostlerlaw25.TraceOrder", spec := "traceOrder", inPlace := ["maps.clone"], unfollowed := true, recurses := true, named := ["hostler/status.next", "hostler/event.all", "hostler/mach.places", "math/bits.deBruijn64tab"], plainKeys := false, apart := false, laid := [("math/bits.deBruijn64tab", laid_math_bits_deBruijn64tab), ("hostler/status.next", laid_hostler_status_next), ("hostler/event.all", laid_hostler_event_all), ("hostler/mach.places", laid_hostler_mach_places)] }
def TraceOrderSaid : Prop := traceOrderRow.holds Tryz.pinned (OpenSpec.ofChange traceOrderSpec)

/-- ITS FALSE NEIGHBOUR: 'it returns false'. Refute it at one input. -/
def traceOrderWrong : ChangeSpec := { name := "traceOrder", fn := fun _ => fun
  | [d1, d2, d3, d4] => { results := [.lit (.bool false)], args := [d1, d2, d3, d4] }
  | _ => none }
def TraceOrderWrongFalsely : Prop := traceOrderRow.holds Tryz.pinned (OpenSpec.ofChange traceOrderWrong)

/-- 'hostlerlaw25.TraceFrom': WHATEVER THE INPUT: true; the input reads as it did. -/
def traceFromSpec : ChangeSpec := { name := "traceFrom", fn := fun _ => fun
  | [d1, d2, d3, d4, d5] => { results := [.lit (.bool true)], args := [d1, d2, d3, d4, d5] }
  | _ => none }
def traceFromRow : OpenClaim := { program := "ytgjafaheglnheaagreatdoor", sum := "d02b6b73311f016d3ea5b172867e75a9479110a09865668deab32cab7a722547", func := "hostler/hostlerlaw25.TraceFrom", spec := "traceFrom", inPlace := ["maps.clone"], unfollowed := true, recurses := true, named := ["hostler/status.next", "hostler/event.all", "hostler/mach.places", "math/bits.deBruijn64tab"], plainKeys := false, apart := false, laid := [("math/bits.deBruijn64tab", laid_math_bits_deBruijn64tab), ("hostler/status.next", laid_hostler_status_next), ("hostler/event.all", laid_hostler_event_all), ("hostler/mach.places", laid_hostler_mach_places)] }
def TraceFromSaid : Prop := traceFromRow.holds Tryz.pinned (OpenSpec.ofChange traceFromSpec)

/-- ITS FALSE NEIGHBOUR: 'it returns false'. Refute it at one input. -/
def traceFromWrong : ChangeSpec := { name := "traceFrom", fn := fun _ => fun
  | [d1, d2, d3, d4, d5] => { results := [.lit (.bool false)], args := [d1, d2, d3, d4, d5] }
  | _ => none }
def TraceFromWrongFalsely : Prop := traceFromRow.holds Tryz.pinned (OpenSpec.ofChange traceFromWrong)

/-- 'hostlerlaw24.BoundDispatches': WHATEVER THE INPUT: true; the input reads as it did. -/
def boundDispatchesSpec : ChangeSpec := { name := "boundDispatches", fn := fun _ => fun
  | [d1, d2, d3, d4] => { results := [.lit (.bool true)], args := [d1, d2, d3, d4] }
  | _ => none }
def boundDispatchesRow : OpenClaim := { program := "ytgjafaheglnheaagreatdoor", sum := "d02b6b73311f016d3ea5b172867e75a9479110a09865668deab32cab7a722547", func := "hostler/hostlerlaw24.BoundDispatches", spec := "boundDispatches", unfollowed := true, recurses := true, named := ["hostler/status.next", "hostler/event.all", "hostler/mach.places", "math/bits.deBruijn64tab"], plainKeys := false, apart := false, laid := [("math/bits.deBruijn64tab", laid_math_bits_deBruijn64tab), ("hostler/status.next", laid_hostler_status_next), ("hostler/event.all", laid_hostler_event_all), ("hostler/mach.places", laid_hostler_mach_places)] }
def BoundDispatchesSaid : Prop := boundDispatchesRow.holds Tryz.pinned (OpenSpec.ofChange boundDispatchesSpec)

/-- ITS FALSE NEIGHBOUR: 'it returns false'. Refute it at one input. -/
def boundDispatchesWrong : ChangeSpec := { name := "boundDispatches", fn := fun _ => fun
  | [d1, d2, d3, d4] => { results := [.lit (.bool false)], args := [d1, d2, d3, d4] }
  | _ => none }
def BoundDispatchesWrongFalsely : Prop := boundDispatchesRow.holds Tryz.pinned (OpenSpec.ofChange boundDispatchesWrong)

/-- 'hostlerlaw20.WorldConfigs': WHATEVER THE INPUT: true; the input reads as it did. -/
def worldConfigsSpec : ChangeSpec := { name := "worldConfigs", fn := fun _ => fun
  | [d1, d2, d3] => { results := [.lit (.bool true)], args := [d1, d2, d3] }
  | _ => none }
def worldConfigsRow : OpenClaim := { program := "ytgjafaheglnheaagreatdoor", sum := "d02b6b73311f016d3ea5b172867e75a9479110a09865668deab32cab7a722547", func := "hostler/hostlerlaw20.WorldConfigs", spec := "worldConfigs", unfollowed := true, recurses := true, named := ["hostler/status.next", "hostler/event.all", "hostler/mach.places", "math/bits.deBruijn64tab"], plainKeys := false, apart := false, laid := [("math/bits.deBruijn64tab", laid_math_bits_deBruijn64tab), ("hostler/status.next", laid_hostler_status_next), ("hostler/event.all", laid_hostler_event_all), ("hostler/mach.places", laid_hostler_mach_places)] }
def WorldConfigsSaid : Prop := worldConfigsRow.holds Tryz.pinned (OpenSpec.ofChange worldConfigsSpec)

/-- ITS FALSE NEIGHBOUR: 'it returns false'. Refute it at one input. -/
def worldConfigsWrong : ChangeSpec := { name := "worldConfigs", fn := fun _ => fun
  | [d1, d2, d3] => { results := [.lit (.bool false)], args := [d1, d2, d3] }
  | _ => none }
def WorldConfigsWrongFalsely : Prop := worldConfigsRow.holds Tryz.pinned (OpenSpec.ofChange worldConfigsWrong)

/-- 'hostlerlaw20.WorldModel': WHATEVER THE INPUT: true; the input reads as it did. -/
def worldModelSpec : ChangeSpec := { name := "worldModel", fn := fun _ => fun
  | [d1, d2, d3, d4] => { results := [.lit (.bool true)], args := [d1, d2, d3, d4] }
  | _ => none }
def worldModelRow : OpenClaim := { program := "ytgjafaheglnheaagreatdoor", sum := "d02b6b73311f016d3ea5b172867e75a9479110a09865668deab32cab7a722547", func := "hostler/hostlerlaw20.WorldModel", spec := "worldModel", unfollowed := true, recurses := true, named := ["hostler/status.next", "hostler/event.all", "hostler/mach.places", "math/bits.deBruijn64tab"], plainKeys := false, apart := false, laid := [("math/bits.deBruijn64tab", laid_math_bits_deBruijn64tab), ("hostler/status.next", laid_hostler_status_next), ("hostler/event.all", laid_hostler_event_all), ("hostler/mach.places", laid_hostler_mach_places)] }
def WorldModelSaid : Prop := worldModelRow.holds Tryz.pinned (OpenSpec.ofChange worldModelSpec)

/-- ITS FALSE NEIGHBOUR: 'it returns false'. Refute it at one input. -/
def worldModelWrong : ChangeSpec := { name := "worldModel", fn := fun _ => fun
  | [d1, d2, d3, d4] => { results := [.lit (.bool false)], args := [d1, d2, d3, d4] }
  | _ => none }
def WorldModelWrongFalsely : Prop := worldModelRow.holds Tryz.pinned (OpenSpec.ofChange worldModelWrong)

/-- 'hostlertop.TopOrders': WHATEVER THE INPUT: true; the input reads as it did. -/
def topOrdersSpec : ChangeSpec := { name := "topOrders", fn := fun _ => fun
  | [d1, d2, d3, d4, d5] => { results := [.lit (.bool true)], args := [d1, d2, d3, d4, d5] }
  | _ => none }
def topOrdersRow : OpenClaim := { program := "ytgjafaheglnheaagreatdoor", sum := "d02b6b73311f016d3ea5b172867e75a9479110a09865668deab32cab7a722547", func := "hostler/hostlertop.TopOrders", spec := "topOrders", inPlace := ["maps.clone", "internal/abi.NoEscape"], unfollowed := true, recurses := true, named := ["hostler/status.next", "hostler/event.all", "hostler/mach.places", "math/bits.deBruijn64tab", "internal/strconv.uint64pow10", "math/bits.deBruijn32tab"], plainKeys := false, apart := false, laid := [("math/bits.deBruijn32tab", laid_math_bits_deBruijn32tab), ("math/bits.deBruijn64tab", laid_math_bits_deBruijn64tab), ("internal/strconv.uint64pow10", laid_internal_strconv_uint64pow10), ("hostler/status.next", laid_hostler_status_next), ("hostler/event.all", laid_hostler_event_all), ("hostler/mach.places", laid_hostler_mach_places)] }
def TopOrdersSaid : Prop := topOrdersRow.holds Tryz.pinned (OpenSpec.ofChange topOrdersSpec)

/-- ITS FALSE NEIGHBOUR: 'it returns false'. Refute it at one input. -/
def topOrdersWrong : ChangeSpec := { name := "topOrders", fn := fun _ => fun
  | [d1, d2, d3, d4, d5] => { results := [.lit (.bool false)], args := [d1, d2, d3, d4, d5] }
  | _ => none }
def TopOrdersWrongFalsely : Prop := topOrdersRow.holds Tryz.pinned (OpenSpec.ofChange topOrdersWrong)

/-- 'hostlerlaw24.BoundServes': WHATEVER THE INPUT: true; the input reads as it did. -/
def boundServesSpec : ChangeSpec := { name := "boundServes", fn := fun _ => fun
  | [d1, d2, d3, d4, d5, d6] => { results := [.lit (.bool true)], args := [d1, d2, d3, d4, d5, d6] }
  | _ => none }
def boundServesRow : OpenClaim := { program := "ytgjafaheglnheaagreatdoor", sum := "d02b6b73311f016d3ea5b172867e75a9479110a09865668deab32cab7a722547", func := "hostler/hostlerlaw24.BoundServes", spec := "boundServes", unfollowed := true, recurses := true, named := ["hostler/status.next", "hostler/event.all", "hostler/mach.places", "math/bits.deBruijn64tab"], plainKeys := false, apart := false, laid := [("math/bits.deBruijn64tab", laid_math_bits_deBruijn64tab), ("hostler/status.next", laid_hostler_status_next), ("hostler/event.all", laid_hostler_event_all), ("hostler/mach.places", laid_hostler_mach_places)] }
def BoundServesSaid : Prop := boundServesRow.holds Tryz.pinned (OpenSpec.ofChange boundServesSpec)

/-- ITS FALSE NEIGHBOUR: 'it returns false'. Refute it at one input. -/
def boundServesWrong : ChangeSpec := { name := "boundServes", fn := fun _ => fun
  | [d1, d2, d3, d4, d5, d6] => { results := [.lit (.bool false)], args := [d1, d2, d3, d4, d5, d6] }
  | _ => none }
def BoundServesWrongFalsely : Prop := boundServesRow.holds Tryz.pinned (OpenSpec.ofChange boundServesWrong)

/-- 'hostlerlaw26.BoxedTexts': WHATEVER THE INPUT: true; the input reads as it did. -/
def boxedTextsSpec : ChangeSpec := { name := "boxedTexts", fn := fun _ => fun
  | [d] => { results := [.lit (.bool true)], args := [d] }
  | _ => none }
def boxedTextsRow : OpenClaim := { program := "ytgjafaheglnheaagreatdoor", sum := "d02b6b73311f016d3ea5b172867e75a9479110a09865668deab32cab7a722547", func := "hostler/hostlerlaw26.BoxedTexts", spec := "boxedTexts", inPlace := ["internal/abi.NoEscape"], unfollowed := true, recurses := true, named := ["hostler/status.next", "hostler/event.all", "hostler/mach.places", "math/bits.deBruijn64tab"], plainKeys := false, apart := false, laid := [("math/bits.deBruijn64tab", laid_math_bits_deBruijn64tab), ("hostler/status.next", laid_hostler_status_next), ("hostler/event.all", laid_hostler_event_all), ("hostler/mach.places", laid_hostler_mach_places)] }
def BoxedTextsSaid : Prop := boxedTextsRow.holds Tryz.pinned (OpenSpec.ofChange boxedTextsSpec)

/-- ITS FALSE NEIGHBOUR: 'it returns false'. Refute it at one input. -/
def boxedTextsWrong : ChangeSpec := { name := "boxedTexts", fn := fun _ => fun
  | [d] => { results := [.lit (.bool false)], args := [d] }
  | _ => none }
def BoxedTextsWrongFalsely : Prop := boxedTextsRow.holds Tryz.pinned (OpenSpec.ofChange boxedTextsWrong)

/- THE SECOND FORM. 'bulk': how many values and letters a reading holds, each counted each time it is reached (what is shared counts as often as it is met; a slice's spare places count too). A statement '..UptoSaid' is the law's where the arguments, and the package variables that the reading takes, are together of bulk at most 1048576: NARROWER than '..Said'. Prove '..Said' where nothing that the law and all that it calls make is longer than what came in: it says more and counts as full. Else prove '..UptoSaid'. A law counts once. -/
mutual
def uptoBulk {H : Type} : DataW H → Nat
  | .lit (.string bytes) => bytes.length + 1
  | .lit _ => 1
  | .nil => 1
  | .ptr d => uptoBulk d + 1
  | .slice elems spare => uptoBulkAll elems + uptoBulkAll spare + 1
  | .agg parts => uptoBulkAll parts + 1
  | .iface _ d => uptoBulk d + 1
  | .map entries => uptoBulkEntries entries + 1
  | .held _ => 1
def uptoBulkAll {H : Type} : List (DataW H) → Nat
  | [] => 0
  | d :: r => uptoBulk d + uptoBulkAll r
def uptoBulkEntries {H : Type} : List (Lit × DataW H) → Nat
  | [] => 0
  | x :: r => uptoBulkEntry x + uptoBulkEntries r
def uptoBulkEntry {H : Type} : Lit × DataW H → Nat
  | (.string bytes, d) => bytes.length + uptoBulk d + 1
  | (_, d) => uptoBulk d + 1
 end
def uptoSmall : (H : Type) → List (DataW H) → Bool := fun _ ds => decide (uptoBulkAll ds ≤ 1048576)
def OpenSpec.upto (s : _root_.Go.ChangeSpec) : _root_.Go.OpenSpec := { _root_.Go.OpenSpec.ofChange s with cond := some uptoSmall }

/-- 'hostlerlaw24.BoundNumbers', WHERE WHAT IT READS IS OF BULK AT MOST 1048576: true; the input reads as it did. -/
def boundNumbersUptoRow : OpenClaim := { program := "ytgjafaheglnheaagreatdoor", sum := "d02b6b73311f016d3ea5b172867e75a9479110a09865668deab32cab7a722547", func := "hostler/hostlerlaw24.BoundNumbers", spec := "boundNumbers", unfollowed := true, recurses := true, named := ["hostler/status.next", "hostler/event.all", "hostler/mach.places", "math/bits.deBruijn64tab"], plainKeys := false, apart := false, laid := [("math/bits.deBruijn64tab", laid_math_bits_deBruijn64tab), ("hostler/status.next", laid_hostler_status_next), ("hostler/event.all", laid_hostler_event_all), ("hostler/mach.places", laid_hostler_mach_places)], narrowed := true }
def BoundNumbersUptoSaid : Prop := boundNumbersUptoRow.holds Tryz.pinned (OpenSpec.upto boundNumbersSpec)

/-- 'hostlerlaw28.ExploreApart', WHERE WHAT IT READS IS OF BULK AT MOST 1048576: true; the input reads as it did. -/
def exploreApartUptoRow : OpenClaim := { program := "ytgjafaheglnheaagreatdoor", sum := "d02b6b73311f016d3ea5b172867e75a9479110a09865668deab32cab7a722547", func := "hostler/hostlerlaw28.ExploreApart", spec := "exploreApart", unfollowed := true, recurses := true, named := ["hostler/status.next", "hostler/event.all", "hostler/mach.places", "math/bits.deBruijn64tab"], plainKeys := false, apart := false, laid := [("math/bits.deBruijn64tab", laid_math_bits_deBruijn64tab), ("hostler/status.next", laid_hostler_status_next), ("hostler/event.all", laid_hostler_event_all), ("hostler/mach.places", laid_hostler_mach_places)], narrowed := true }
def ExploreApartUptoSaid : Prop := exploreApartUptoRow.holds Tryz.pinned (OpenSpec.upto exploreApartSpec)

/-- 'hostlerlaw28.ExploreOrders', WHERE WHAT IT READS IS OF BULK AT MOST 1048576: true; the input reads as it did. -/
def exploreOrdersUptoRow : OpenClaim := { program := "ytgjafaheglnheaagreatdoor", sum := "d02b6b73311f016d3ea5b172867e75a9479110a09865668deab32cab7a722547", func := "hostler/hostlerlaw28.ExploreOrders", spec := "exploreOrders", unfollowed := true, recurses := true, named := ["hostler/status.next", "hostler/event.all", "hostler/mach.places", "math/bits.deBruijn64tab"], plainKeys := false, apart := false, laid := [("math/bits.deBruijn64tab", laid_math_bits_deBruijn64tab), ("hostler/status.next", laid_hostler_status_next), ("hostler/event.all", laid_hostler_event_all), ("hostler/mach.places", laid_hostler_mach_places)], narrowed := true }
def ExploreOrdersUptoSaid : Prop := exploreOrdersUptoRow.holds Tryz.pinned (OpenSpec.upto exploreOrdersSpec)

/-- 'hostlerlaw26.BoxedMust', WHERE WHAT IT READS IS OF BULK AT MOST 1048576: true; the input reads as it did. -/
def boxedMustUptoRow : OpenClaim := { program := "ytgjafaheglnheaagreatdoor", sum := "d02b6b73311f016d3ea5b172867e75a9479110a09865668deab32cab7a722547", func := "hostler/hostlerlaw26.BoxedMust", spec := "boxedMust", unfollowed := true, recurses := true, named := ["hostler/status.next", "hostler/event.all", "hostler/mach.places", "math/bits.deBruijn64tab"], plainKeys := false, apart := false, laid := [("math/bits.deBruijn64tab", laid_math_bits_deBruijn64tab), ("hostler/status.next", laid_hostler_status_next), ("hostler/event.all", laid_hostler_event_all), ("hostler/mach.places", laid_hostler_mach_places)], narrowed := true }
def BoxedMustUptoSaid : Prop := boxedMustUptoRow.holds Tryz.pinned (OpenSpec.upto boxedMustSpec)

/-- 'hostlerlaw20.WorldAgain', WHERE WHAT IT READS IS OF BULK AT MOST 1048576: true; the input reads as it did. -/
def worldAgainUptoRow : OpenClaim := { program := "ytgjafaheglnheaagreatdoor", sum := "d02b6b73311f016d3ea5b172867e75a9479110a09865668deab32cab7a722547", func := "hostler/hostlerlaw20.WorldAgain", spec := "worldAgain", unfollowed := true, recurses := true, named := ["hostler/status.next", "hostler/event.all", "hostler/mach.places", "math/bits.deBruijn64tab"], plainKeys := false, apart := false, laid := [("math/bits.deBruijn64tab", laid_math_bits_deBruijn64tab), ("hostler/status.next", laid_hostler_status_next), ("hostler/event.all", laid_hostler_event_all), ("hostler/mach.places", laid_hostler_mach_places)], narrowed := true }
def WorldAgainUptoSaid : Prop := worldAgainUptoRow.holds Tryz.pinned (OpenSpec.upto worldAgainSpec)

/-- 'hostlerlaw27.TallyJoins', WHERE WHAT IT READS IS OF BULK AT MOST 1048576: true; the input reads as it did. -/
def tallyJoinsUptoRow : OpenClaim := { program := "ytgjafaheglnheaagreatdoor", sum := "d02b6b73311f016d3ea5b172867e75a9479110a09865668deab32cab7a722547", func := "hostler/hostlerlaw27.TallyJoins", spec := "tallyJoins", unfollowed := true, recurses := true, named := ["hostler/status.next", "hostler/event.all", "hostler/mach.places", "math/bits.deBruijn64tab"], plainKeys := false, apart := false, laid := [("math/bits.deBruijn64tab", laid_math_bits_deBruijn64tab), ("hostler/status.next", laid_hostler_status_next), ("hostler/event.all", laid_hostler_event_all), ("hostler/mach.places", laid_hostler_mach_places)], narrowed := true }
def TallyJoinsUptoSaid : Prop := tallyJoinsUptoRow.holds Tryz.pinned (OpenSpec.upto tallyJoinsSpec)

/-- 'hostlertop.TopRun', WHERE WHAT IT READS IS OF BULK AT MOST 1048576: true; the input reads as it did. -/
def topRunUptoRow : OpenClaim := { program := "ytgjafaheglnheaagreatdoor", sum := "d02b6b73311f016d3ea5b172867e75a9479110a09865668deab32cab7a722547", func := "hostler/hostlertop.TopRun", spec := "topRun", inPlace := ["maps.clone"], unfollowed := true, recurses := true, named := ["hostler/status.next", "hostler/event.all", "hostler/mach.places", "math/bits.deBruijn64tab"], plainKeys := false, apart := false, laid := [("math/bits.deBruijn64tab", laid_math_bits_deBruijn64tab), ("hostler/status.next", laid_hostler_status_next), ("hostler/event.all", laid_hostler_event_all), ("hostler/mach.places", laid_hostler_mach_places)], narrowed := true }
def TopRunUptoSaid : Prop := topRunUptoRow.holds Tryz.pinned (OpenSpec.upto topRunSpec)

/-- 'hostlerlaw22.RoundHabits', WHERE WHAT IT READS IS OF BULK AT MOST 1048576: true; the input reads as it did. -/
def roundHabitsUptoRow : OpenClaim := { program := "ytgjafaheglnheaagreatdoor", sum := "d02b6b73311f016d3ea5b172867e75a9479110a09865668deab32cab7a722547", func := "hostler/hostlerlaw22.RoundHabits", spec := "roundHabits", unfollowed := true, recurses := true, named := ["hostler/status.next", "hostler/event.all", "hostler/mach.places", "math/bits.deBruijn64tab"], plainKeys := false, apart := false, laid := [("math/bits.deBruijn64tab", laid_math_bits_deBruijn64tab), ("hostler/status.next", laid_hostler_status_next), ("hostler/event.all", laid_hostler_event_all), ("hostler/mach.places", laid_hostler_mach_places)], narrowed := true }
def RoundHabitsUptoSaid : Prop := roundHabitsUptoRow.holds Tryz.pinned (OpenSpec.upto roundHabitsSpec)

/-- 'hostlerlaw22.RoundUntil', WHERE WHAT IT READS IS OF BULK AT MOST 1048576: true; the input reads as it did. -/
def roundUntilUptoRow : OpenClaim := { program := "ytgjafaheglnheaagreatdoor", sum := "d02b6b73311f016d3ea5b172867e75a9479110a09865668deab32cab7a722547", func := "hostler/hostlerlaw22.RoundUntil", spec := "roundUntil", unfollowed := true, recurses := true, named := ["hostler/status.next", "hostler/event.all", "hostler/mach.places", "math/bits.deBruijn64tab"], plainKeys := false, apart := false, laid := [("math/bits.deBruijn64tab", laid_math_bits_deBruijn64tab), ("hostler/status.next", laid_hostler_status_next), ("hostler/event.all", laid_hostler_event_all), ("hostler/mach.places", laid_hostler_mach_places)], narrowed := true }
def RoundUntilUptoSaid : Prop := roundUntilUptoRow.holds Tryz.pinned (OpenSpec.upto roundUntilSpec)

/-- 'hostlerlaw22.RoundAll', WHERE WHAT IT READS IS OF BULK AT MOST 1048576: true; the input reads as it did. -/
def roundAllUptoRow : OpenClaim := { program := "ytgjafaheglnheaagreatdoor", sum := "d02b6b73311f016d3ea5b172867e75a9479110a09865668deab32cab7a722547", func := "hostler/hostlerlaw22.RoundAll", spec := "roundAll", unfollowed := true, recurses := true, named := ["hostler/status.next", "hostler/event.all", "hostler/mach.places", "math/bits.deBruijn64tab"], plainKeys := false, apart := false, laid := [("math/bits.deBruijn64tab", laid_math_bits_deBruijn64tab), ("hostler/status.next", laid_hostler_status_next), ("hostler/event.all", laid_hostler_event_all), ("hostler/mach.places", laid_hostler_mach_places)], narrowed := true }
def RoundAllUptoSaid : Prop := roundAllUptoRow.holds Tryz.pinned (OpenSpec.upto roundAllSpec)

/-- 'hostlerlaw25.TraceNever', WHERE WHAT IT READS IS OF BULK AT MOST 1048576: true; the input reads as it did. -/
def traceNeverUptoRow : OpenClaim := { program := "ytgjafaheglnheaagreatdoor", sum := "d02b6b73311f016d3ea5b172867e75a9479110a09865668deab32cab7a722547", func := "hostler/hostlerlaw25.TraceNever", spec := "traceNever", inPlace := ["maps.clone"], unfollowed := true, recurses := true, named := ["hostler/status.next", "hostler/event.all", "hostler/mach.places", "math/bits.deBruijn64tab"], plainKeys := false, apart := false, laid := [("math/bits.deBruijn64tab", laid_math_bits_deBruijn64tab), ("hostler/status.next", laid_hostler_status_next), ("hostler/event.all", laid_hostler_event_all), ("hostler/mach.places", laid_hostler_mach_places)], narrowed := true }
def TraceNeverUptoSaid : Prop := traceNeverUptoRow.holds Tryz.pinned (OpenSpec.upto traceNeverSpec)

/-- 'hostlerlaw25.TraceTimes', WHERE WHAT IT READS IS OF BULK AT MOST 1048576: true; the input reads as it did. -/
def traceTimesUptoRow : OpenClaim := { program := "ytgjafaheglnheaagreatdoor", sum := "d02b6b73311f016d3ea5b172867e75a9479110a09865668deab32cab7a722547", func := "hostler/hostlerlaw25.TraceTimes", spec := "traceTimes", inPlace := ["maps.clone"], unfollowed := true, recurses := true, named := ["hostler/status.next", "hostler/event.all", "hostler/mach.places", "math/bits.deBruijn64tab"], plainKeys := false, apart := false, laid := [("math/bits.deBruijn64tab", laid_math_bits_deBruijn64tab), ("hostler/status.next", laid_hostler_status_next), ("hostler/event.all", laid_hostler_event_all), ("hostler/mach.places", laid_hostler_mach_places)], narrowed := true }
def TraceTimesUptoSaid : Prop := traceTimesUptoRow.holds Tryz.pinned (OpenSpec.upto traceTimesSpec)

/-- 'hostlerlaw25.TraceOrder', WHERE WHAT IT READS IS OF BULK AT MOST 1048576: true; the input reads as it did. -/
def traceOrderUptoRow : OpenClaim := { program := "ytgjafaheglnheaagreatdoor", sum := "d02b6b73311f016d3ea5b172867e75a9479110a09865668deab32cab7a722547", func := "hostler/hostlerlaw25.TraceOrder", spec := "traceOrder", inPlace := ["maps.clone"], unfollowed := true, recurses := true, named := ["hostler/status.next", "hostler/event.all", "hostler/mach.places", "math/bits.deBruijn64tab"], plainKeys := false, apart := false, laid := [("math/bits.deBruijn64tab", laid_math_bits_deBruijn64tab), ("hostler/status.next", laid_hostler_status_next), ("hostler/event.all", laid_hostler_event_all), ("hostler/mach.places", laid_hostler_mach_places)], narrowed := true }
def TraceOrderUptoSaid : Prop := traceOrderUptoRow.holds Tryz.pinned (OpenSpec.upto traceOrderSpec)

/-- 'hostlerlaw25.TraceFrom', WHERE WHAT IT READS IS OF BULK AT MOST 1048576: true; the input reads as it did. -/
def traceFromUptoRow : OpenClaim := { program := "ytgjafaheglnheaagreatdoor", sum := "d02b6b73311f016d3ea5b172867e75a9479110a09865668deab32cab7a722547", func := "hostler/hostlerlaw25.TraceFrom", spec := "traceFrom", inPlace := ["maps.clone"], unfollowed := true, recurses := true, named := ["hostler/status.next", "hostler/event.all", "hostler/mach.places", "math/bits.deBruijn64tab"], plainKeys := false, apart := false, laid := [("math/bits.deBruijn64tab", laid_math_bits_deBruijn64tab), ("hostler/status.next", laid_hostler_status_next), ("hostler/event.all", laid_hostler_event_all), ("hostler/mach.places", laid_hostler_mach_places)], narrowed := true }
def TraceFromUptoSaid : Prop := traceFromUptoRow.holds Tryz.pinned (OpenSpec.upto traceFromSpec)

/-- 'hostlerlaw24.BoundDispatches', WHERE WHAT IT READS IS OF BULK AT MOST 1048576: true; the input reads as it did. -/
def boundDispatchesUptoRow : OpenClaim := { program := "ytgjafaheglnheaagreatdoor", sum := "d02b6b73311f016d3ea5b172867e75a9479110a09865668deab32cab7a722547", func := "hostler/hostlerlaw24.BoundDispatches", spec := "boundDispatches", unfollowed := true, recurses := true, named := ["hostler/status.next", "hostler/event.all", "hostler/mach.places", "math/bits.deBruijn64tab"], plainKeys := false, apart := false, laid := [("math/bits.deBruijn64tab", laid_math_bits_deBruijn64tab), ("hostler/status.next", laid_hostler_status_next), ("hostler/event.all", laid_hostler_event_all), ("hostler/mach.places", laid_hostler_mach_places)], narrowed := true }
def BoundDispatchesUptoSaid : Prop := boundDispatchesUptoRow.holds Tryz.pinned (OpenSpec.upto boundDispatchesSpec)

/-- 'hostlerlaw20.WorldConfigs', WHERE WHAT IT READS IS OF BULK AT MOST 1048576: true; the input reads as it did. -/
def worldConfigsUptoRow : OpenClaim := { program := "ytgjafaheglnheaagreatdoor", sum := "d02b6b73311f016d3ea5b172867e75a9479110a09865668deab32cab7a722547", func := "hostler/hostlerlaw20.WorldConfigs", spec := "worldConfigs", unfollowed := true, recurses := true, named := ["hostler/status.next", "hostler/event.all", "hostler/mach.places", "math/bits.deBruijn64tab"], plainKeys := false, apart := false, laid := [("math/bits.deBruijn64tab", laid_math_bits_deBruijn64tab), ("hostler/status.next", laid_hostler_status_next), ("hostler/event.all", laid_hostler_event_all), ("hostler/mach.places", laid_hostler_mach_places)], narrowed := true }
def WorldConfigsUptoSaid : Prop := worldConfigsUptoRow.holds Tryz.pinned (OpenSpec.upto worldConfigsSpec)

/-- 'hostlerlaw20.WorldModel', WHERE WHAT IT READS IS OF BULK AT MOST 1048576: true; the input reads as it did. -/
def worldModelUptoRow : OpenClaim := { program := "ytgjafaheglnheaagreatdoor", sum := "d02b6b73311f016d3ea5b172867e75a9479110a09865668deab32cab7a722547", func := "hostler/hostlerlaw20.WorldModel", spec := "worldModel", unfollowed := true, recurses := true, named := ["hostler/status.next", "hostler/event.all", "hostler/mach.places", "math/bits.deBruijn64tab"], plainKeys := false, apart := false, laid := [("math/bits.deBruijn64tab", laid_math_bits_deBruijn64tab), ("hostler/status.next", laid_hostler_status_next), ("hostler/event.all", laid_hostler_event_all), ("hostler/mach.places", laid_hostler_mach_places)], narrowed := true }
def WorldModelUptoSaid : Prop := worldModelUptoRow.holds Tryz.pinned (OpenSpec.upto worldModelSpec)

/-- 'hostlertop.TopOrders', WHERE WHAT IT READS IS OF BULK AT MOST 1048576: true; the input reads as it did. -/
def topOrdersUptoRow : OpenClaim := { program := "ytgjafaheglnheaagreatdoor", sum := "d02b6b73311f016d3ea5b172867e75a9479110a09865668deab32cab7a722547", func := "hostler/hostlertop.TopOrders", spec := "topOrders", inPlace := ["maps.clone", "internal/abi.NoEscape"], unfollowed := true, recurses := true, named := ["hostler/status.next", "hostler/event.all", "hostler/mach.places", "math/bits.deBruijn64tab", "internal/strconv.uint64pow10", "math/bits.deBruijn32tab"], plainKeys := false, apart := false, laid := [("math/bits.deBruijn32tab", laid_math_bits_deBruijn32tab), ("math/bits.deBruijn64tab", laid_math_bits_deBruijn64tab), ("internal/strconv.uint64pow10", laid_internal_strconv_uint64pow10), ("hostler/status.next", laid_hostler_status_next), ("hostler/event.all", laid_hostler_event_all), ("hostler/mach.places", laid_hostler_mach_places)], narrowed := true }
def TopOrdersUptoSaid : Prop := topOrdersUptoRow.holds Tryz.pinned (OpenSpec.upto topOrdersSpec)

/-- 'hostlerlaw24.BoundServes', WHERE WHAT IT READS IS OF BULK AT MOST 1048576: true; the input reads as it did. -/
def boundServesUptoRow : OpenClaim := { program := "ytgjafaheglnheaagreatdoor", sum := "d02b6b73311f016d3ea5b172867e75a9479110a09865668deab32cab7a722547", func := "hostler/hostlerlaw24.BoundServes", spec := "boundServes", unfollowed := true, recurses := true, named := ["hostler/status.next", "hostler/event.all", "hostler/mach.places", "math/bits.deBruijn64tab"], plainKeys := false, apart := false, laid := [("math/bits.deBruijn64tab", laid_math_bits_deBruijn64tab), ("hostler/status.next", laid_hostler_status_next), ("hostler/event.all", laid_hostler_event_all), ("hostler/mach.places", laid_hostler_mach_places)], narrowed := true }
def BoundServesUptoSaid : Prop := boundServesUptoRow.holds Tryz.pinned (OpenSpec.upto boundServesSpec)

/-- 'hostlerlaw26.BoxedTexts', WHERE WHAT IT READS IS OF BULK AT MOST 1048576: true; the input reads as it did. -/
def boxedTextsUptoRow : OpenClaim := { program := "ytgjafaheglnheaagreatdoor", sum := "d02b6b73311f016d3ea5b172867e75a9479110a09865668deab32cab7a722547", func := "hostler/hostlerlaw26.BoxedTexts", spec := "boxedTexts", inPlace := ["internal/abi.NoEscape"], unfollowed := true, recurses := true, named := ["hostler/status.next", "hostler/event.all", "hostler/mach.places", "math/bits.deBruijn64tab"], plainKeys := false, apart := false, laid := [("math/bits.deBruijn64tab", laid_math_bits_deBruijn64tab), ("hostler/status.next", laid_hostler_status_next), ("hostler/event.all", laid_hostler_event_all), ("hostler/mach.places", laid_hostler_mach_places)], narrowed := true }
def BoxedTextsUptoSaid : Prop := boxedTextsUptoRow.holds Tryz.pinned (OpenSpec.upto boxedTextsSpec)

end Rows
end Go.Proofs.YtgjafaheglnheaaGreatDoor
