/- Closed facts on the row of ExploreOrders, each by the kernel. Written by a program of this session; no condition. -/
import Derived.Test.YtgjafaheglnheaaGreatDoorHsZShared
namespace Go.Proofs.YtgjafaheglnheaaGreatDoor
open Go
set_option maxRecDepth 100000

theorem exploreOrders_wf : Rows.exploreOrdersRow.wf (OpenSpec.ofChange Rows.exploreOrdersSpec) = true := by kernel_rfl
theorem exploreOrders_params : Tryz.f5.params.all (Tryz.prog.readableRec ·) = true := by kernel_rfl
theorem exploreOrders_named : namedTie Tryz.prog Rows.exploreOrdersRow.named Rows.exploreOrdersSpec.vars = true := by kernel_rfl
theorem exploreOrders_stops : (Rows.exploreOrdersRow.stops == []) = true := by kernel_rfl
theorem exploreOrders_knobs : (Rows.exploreOrdersRow.knobs == []) = true := by kernel_rfl
theorem exploreOrders_inPlace : (Rows.exploreOrdersRow.inPlace == Tryz.prog.inPlace 5) = true := by kernel_rfl
theorem exploreOrders_unf : (Rows.exploreOrdersRow.unfollowed == Tryz.prog.unfollowed 5) = true := by kernel_rfl
theorem exploreOrders_rec : (Rows.exploreOrdersRow.recurses == Tryz.prog.recurses 5) = true := by kernel_rfl
theorem exploreOrders_vars : (Rows.exploreOrdersRow.named == Tryz.prog.varsNamed 5) = true := by kernel_rfl
theorem exploreOrders_maps : (Rows.exploreOrdersRow.maps == (Tryz.f5.params.toList ++ Rows.exploreOrdersSpec.plain.varTypes Tryz.prog).any (Tryz.prog.mapsRec ·)) = true := by kernel_rfl
theorem exploreOrders_ifaces : (Rows.exploreOrdersRow.ifaces == (Tryz.f5.params.toList ++ Rows.exploreOrdersSpec.plain.varTypes Tryz.prog).any (Tryz.prog.ifacesRec ·)) = true := by kernel_rfl
theorem exploreOrders_mapsOut : (Rows.exploreOrdersRow.mapsOut == Tryz.prog.mapsAmong Tryz.f5.resultTypes.toList) = true := by kernel_rfl
theorem exploreOrders_loops : (Rows.exploreOrdersRow.loops == (Tryz.f5.params.toList ++ Rows.exploreOrdersSpec.plain.varTypes Tryz.prog).any (Tryz.prog.loopsFrom ·)) = true := by kernel_rfl
theorem exploreOrders_wide : (Rows.exploreOrdersRow.wideKeys == (Tryz.f5.params.toList ++ Rows.exploreOrdersSpec.plain.varTypes Tryz.prog ++ Tryz.f5.resultTypes.toList).any (Tryz.prog.wideKeysFrom ·)) = true := by kernel_rfl
theorem exploreOrders_readable : Rows.exploreOrdersSpec.vars.all (Tryz.prog.varReadable ·) = true := by kernel_rfl
theorem exploreOrders_results : Tryz.f5.resultTypes.all (fun t => Tryz.prog.readableRec t && decide (t < Tryz.prog.types.size)) = true := by kernel_rfl
theorem exploreOrders_ifacesOut : (Rows.exploreOrdersRow.ifacesOut == Tryz.f5.resultTypes.toList.any (Tryz.prog.ifacesRec ·)) = true := by kernel_rfl
theorem exploreOrders_loopsOut : (Rows.exploreOrdersRow.loopsOut == Tryz.f5.resultTypes.toList.any (Tryz.prog.loopsFrom ·)) = true := by kernel_rfl
theorem exploreOrders_short : Rows.exploreOrdersRow.shortTexts.isNone = true := by kernel_rfl
theorem exploreOrders_kinds : (Rows.exploreOrdersRow.kinds == (if Rows.exploreOrdersRow.domain.isEmpty then [] else Tryz.f5.params.toList.map fun t => match Tryz.prog.underlying t with | some (.int k) => some k | _ => Option.none)) = true := by kernel_rfl
theorem exploreOrders_pinned : (Rows.exploreOrdersRow.pinned == Rows.exploreOrdersRow.pinnedBy) = true := by kernel_rfl
theorem exploreOrders_veiled : (Rows.exploreOrdersRow.veiled == (Tryz.f5.params.toList ++ Rows.exploreOrdersSpec.plain.varTypes Tryz.prog ++ Tryz.f5.resultTypes.toList).any (Tryz.prog.veiledRec ·)) = true := by kernel_rfl
theorem exploreOrders_fits : Rows.exploreOrdersRow.veiledFits Tryz.prog Tryz.f5.params.toList (Tryz.f5.params.toList ++ Rows.exploreOrdersSpec.plain.varTypes Tryz.prog ++ Tryz.f5.resultTypes.toList) = true := by kernel_rfl
theorem exploreOrders_func : Tryz.prog.funcNamed "hostler/hostlerlaw28.ExploreOrders" = some 5 := by kernel_rfl
theorem exploreOrders_text : OpenClaim.wfByText (OpenSpec.ofChange Rows.exploreOrdersSpec) Rows.exploreOrdersRow = true := by kernel_rfl
theorem exploreOrders_goes : false = Rows.exploreOrdersRow.goesBy Tryz.prog := by kernel_rfl
theorem exploreOrders_idx : Tryz.prog.inits.idxOf? 5 = Option.none := by kernel_rfl
theorem exploreOrders_rtypes : Tryz.f5.resultTypes = #[4] := by kernel_rfl
theorem exploreOrders_plain : (Rows.exploreOrdersRow.plainKeys == Tryz.prog.plainKeys) = true := by rw [sh_plain]; rfl
theorem exploreOrders_lifted : (Rows.exploreOrdersRow.lifted == Tryz.prog.liftsFinal) = true := (congrArg (fun x => Rows.exploreOrdersRow.lifted == x) sh_lifts).trans rfl
theorem exploreOrders_make : (Tryz.prog.make == some Rows.exploreOrdersRow.make) = true := (congrArg (fun x => x == some Rows.exploreOrdersRow.make) sh_make).trans rfl
theorem exploreOrders_joined : joinedFacts Tryz.prog 5 Tryz.f5 Rows.exploreOrdersSpec Rows.exploreOrdersRow = true := by
  simp only [joinedFacts, Bool.and_eq_true]
  exact ⟨⟨⟨⟨⟨⟨⟨⟨⟨⟨⟨⟨⟨⟨⟨⟨⟨⟨⟨⟨⟨⟨⟨⟨⟨⟨⟨⟨⟨⟨⟨exploreOrders_wf, sh_laid⟩, sh_rowed⟩, exploreOrders_params⟩, exploreOrders_named⟩, exploreOrders_stops⟩, sh_stops⟩, exploreOrders_knobs⟩, sh_knobs⟩, exploreOrders_inPlace⟩, exploreOrders_unf⟩, exploreOrders_rec⟩, exploreOrders_vars⟩, exploreOrders_maps⟩, exploreOrders_ifaces⟩, exploreOrders_mapsOut⟩, exploreOrders_loops⟩, exploreOrders_wide⟩, exploreOrders_readable⟩, exploreOrders_results⟩, exploreOrders_ifacesOut⟩, exploreOrders_loopsOut⟩, exploreOrders_plain⟩, exploreOrders_short⟩, sh_heard⟩, sh_enter⟩, exploreOrders_lifted⟩, exploreOrders_make⟩, exploreOrders_kinds⟩, exploreOrders_pinned⟩, exploreOrders_veiled⟩, exploreOrders_fits⟩
end Go.Proofs.YtgjafaheglnheaaGreatDoor
