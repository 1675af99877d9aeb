/- This program's whole-number and map types, and that its regions draw among all their orders. No condition. -/
import Derived.Test.YtgjafaheglnheaaGreatDoorHsTree3
import Derived.Test.YtgjafaheglnheaaGreatDoorProg
namespace Go.Tr
def tyInts : List Nat := [2, 3, 5, 6, 12, 21, 41, 81, 82, 92, 149, 197, 302, 359, 364, 398, 401, 497, 505, 518, 519, 521, 522]
def tyMaps : List Nat := [32, 106, 140, 162, 204, 211, 212, 226, 227, 313, 317, 318]
theorem mixed : Go.Proofs.Tryz.prog.follows .mixedOrders = true := by kernel_rfl
end Go.Tr
