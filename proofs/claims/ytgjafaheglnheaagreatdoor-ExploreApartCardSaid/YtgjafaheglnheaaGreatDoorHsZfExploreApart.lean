/- Closed facts on the row of ExploreApart, each by the kernel. Written by a program of this session; no condition. -/
import Derived.Test.YtgjafaheglnheaaGreatDoorHsZShared
namespace Go.Proofs.YtgjafaheglnheaaGreatDoor
open Go
set_option maxRecDepth 100000

theorem exploreApart_wf : Rows.exploreApartRow.wf (OpenSpec.ofChange Rows.exploreApartSpec) = true := by kernel_rfl
theorem exploreApart_params : Tryz.f4.params.all (Tryz.prog.readableRec ·) = true := by kernel_rfl
theorem exploreApart_named : namedTie Tryz.prog Rows.exploreApartRow.named Rows.exploreApartSpec.vars = true := by kernel_rfl
theorem exploreApart_stops : (Rows.exploreApartRow.stops == []) = true := by kernel_rfl
theorem exploreApart_knobs : (Rows.exploreApartRow.knobs == []) = true := by kernel_rfl
theorem exploreApart_inPlace : (Rows.exploreApartRow.inPlace == Tryz.prog.inPlace 4) = true := by kernel_rfl
theorem exploreApart_unf : (Rows.exploreApartRow.unfollowed == Tryz.prog.unfollowed 4) = true := by kernel_rfl
theorem exploreApart_rec : (Rows.exploreApartRow.recurses == Tryz.prog.recurses 4) = true := by kernel_rfl
theorem exploreApart_vars : (Rows.exploreApartRow.named == Tryz.prog.varsNamed 4) = true := by kernel_rfl
theorem exploreApart_maps : (Rows.exploreApartRow.maps == (Tryz.f4.params.toList ++ Rows.exploreApartSpec.plain.varTypes Tryz.prog).any (Tryz.prog.mapsRec ·)) = true := by kernel_rfl
theorem exploreApart_ifaces : (Rows.exploreApartRow.ifaces == (Tryz.f4.params.toList ++ Rows.exploreApartSpec.plain.varTypes Tryz.prog).any (Tryz.prog.ifacesRec ·)) = true := by kernel_rfl
theorem exploreApart_mapsOut : (Rows.exploreApartRow.mapsOut == Tryz.prog.mapsAmong Tryz.f4.resultTypes.toList) = true := by kernel_rfl
theorem exploreApart_loops : (Rows.exploreApartRow.loops == (Tryz.f4.params.toList ++ Rows.exploreApartSpec.plain.varTypes Tryz.prog).any (Tryz.prog.loopsFrom ·)) = true := by kernel_rfl
theorem exploreApart_wide : (Rows.exploreApartRow.wideKeys == (Tryz.f4.params.toList ++ Rows.exploreApartSpec.plain.varTypes Tryz.prog ++ Tryz.f4.resultTypes.toList).any (Tryz.prog.wideKeysFrom ·)) = true := by kernel_rfl
theorem exploreApart_readable : Rows.exploreApartSpec.vars.all (Tryz.prog.varReadable ·) = true := by kernel_rfl
theorem exploreApart_results : Tryz.f4.resultTypes.all (fun t => Tryz.prog.readableRec t && decide (t < Tryz.prog.types.size)) = true := by kernel_rfl
theorem exploreApart_ifacesOut : (Rows.exploreApartRow.ifacesOut == Tryz.f4.resultTypes.toList.any (Tryz.prog.ifacesRec ·)) = true := by kernel_rfl
theorem exploreApart_loopsOut : (Rows.exploreApartRow.loopsOut == Tryz.f4.resultTypes.toList.any (Tryz.prog.loopsFrom ·)) = true := by kernel_rfl
theorem exploreApart_short : Rows.exploreApartRow.shortTexts.isNone = true := by kernel_rfl
theorem exploreApart_kinds : (Rows.exploreApartRow.kinds == (if Rows.exploreApartRow.domain.isEmpty then [] else Tryz.f4.params.toList.map fun t => match Tryz.prog.underlying t with | some (.int k) => some k | _ => Option.none)) = true := by kernel_rfl
theorem exploreApart_pinned : (Rows.exploreApartRow.pinned == Rows.exploreApartRow.pinnedBy) = true := by kernel_rfl
theorem exploreApart_veiled : (Rows.exploreApartRow.veiled == (Tryz.f4.params.toList ++ Rows.exploreApartSpec.plain.varTypes Tryz.prog ++ Tryz.f4.resultTypes.toList).any (Tryz.prog.veiledRec ·)) = true := by kernel_rfl
theorem exploreApart_fits : Rows.exploreApartRow.veiledFits Tryz.prog Tryz.f4.params.toList (Tryz.f4.params.toList ++ Rows.exploreApartSpec.plain.varTypes Tryz.prog ++ Tryz.f4.resultTypes.toList) = true := by kernel_rfl
theorem exploreApart_func : Tryz.prog.funcNamed "hostler/hostlerlaw28.ExploreApart" = some 4 := by kernel_rfl
theorem exploreApart_text : OpenClaim.wfByText (OpenSpec.ofChange Rows.exploreApartSpec) Rows.exploreApartRow = true := by kernel_rfl
theorem exploreApart_goes : false = Rows.exploreApartRow.goesBy Tryz.prog := by kernel_rfl
theorem exploreApart_idx : Tryz.prog.inits.idxOf? 4 = Option.none := by kernel_rfl
theorem exploreApart_rtypes : Tryz.f4.resultTypes = #[4] := by kernel_rfl
theorem exploreApart_plain : (Rows.exploreApartRow.plainKeys == Tryz.prog.plainKeys) = true := by rw [sh_plain]; rfl
theorem exploreApart_lifted : (Rows.exploreApartRow.lifted == Tryz.prog.liftsFinal) = true := (congrArg (fun x => Rows.exploreApartRow.lifted == x) sh_lifts).trans rfl
theorem exploreApart_make : (Tryz.prog.make == some Rows.exploreApartRow.make) = true := (congrArg (fun x => x == some Rows.exploreApartRow.make) sh_make).trans rfl
theorem exploreApart_joined : joinedFacts Tryz.prog 4 Tryz.f4 Rows.exploreApartSpec Rows.exploreApartRow = true := by
  simp only [joinedFacts, Bool.and_eq_true]
  exact ⟨⟨⟨⟨⟨⟨⟨⟨⟨⟨⟨⟨⟨⟨⟨⟨⟨⟨⟨⟨⟨⟨⟨⟨⟨⟨⟨⟨⟨⟨⟨exploreApart_wf, sh_laid⟩, sh_rowed⟩, exploreApart_params⟩, exploreApart_named⟩, exploreApart_stops⟩, sh_stops⟩, exploreApart_knobs⟩, sh_knobs⟩, exploreApart_inPlace⟩, exploreApart_unf⟩, exploreApart_rec⟩, exploreApart_vars⟩, exploreApart_maps⟩, exploreApart_ifaces⟩, exploreApart_mapsOut⟩, exploreApart_loops⟩, exploreApart_wide⟩, exploreApart_readable⟩, exploreApart_results⟩, exploreApart_ifacesOut⟩, exploreApart_loopsOut⟩, exploreApart_plain⟩, exploreApart_short⟩, sh_heard⟩, sh_enter⟩, exploreApart_lifted⟩, exploreApart_make⟩, exploreApart_kinds⟩, exploreApart_pinned⟩, exploreApart_veiled⟩, exploreApart_fits⟩
end Go.Proofs.YtgjafaheglnheaaGreatDoor
