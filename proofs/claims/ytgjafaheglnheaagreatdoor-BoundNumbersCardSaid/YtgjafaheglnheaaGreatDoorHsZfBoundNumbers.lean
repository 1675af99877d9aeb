/- Closed facts on the row of BoundNumbers, each by the kernel. Written by a program of this session; no condition. -/
import Derived.Test.YtgjafaheglnheaaGreatDoorHsZShared
namespace Go.Proofs.YtgjafaheglnheaaGreatDoor
open Go
set_option maxRecDepth 100000

theorem boundNumbers_wf : Rows.boundNumbersRow.wf (OpenSpec.ofChange Rows.boundNumbersSpec) = true := by kernel_rfl
theorem boundNumbers_params : Tryz.f3.params.all (Tryz.prog.readableRec ·) = true := by kernel_rfl
theorem boundNumbers_named : namedTie Tryz.prog Rows.boundNumbersRow.named Rows.boundNumbersSpec.vars = true := by kernel_rfl
theorem boundNumbers_stops : (Rows.boundNumbersRow.stops == []) = true := by kernel_rfl
theorem boundNumbers_knobs : (Rows.boundNumbersRow.knobs == []) = true := by kernel_rfl
theorem boundNumbers_inPlace : (Rows.boundNumbersRow.inPlace == Tryz.prog.inPlace 3) = true := by kernel_rfl
theorem boundNumbers_unf : (Rows.boundNumbersRow.unfollowed == Tryz.prog.unfollowed 3) = true := by kernel_rfl
theorem boundNumbers_rec : (Rows.boundNumbersRow.recurses == Tryz.prog.recurses 3) = true := by kernel_rfl
theorem boundNumbers_vars : (Rows.boundNumbersRow.named == Tryz.prog.varsNamed 3) = true := by kernel_rfl
theorem boundNumbers_maps : (Rows.boundNumbersRow.maps == (Tryz.f3.params.toList ++ Rows.boundNumbersSpec.plain.varTypes Tryz.prog).any (Tryz.prog.mapsRec ·)) = true := by kernel_rfl
theorem boundNumbers_ifaces : (Rows.boundNumbersRow.ifaces == (Tryz.f3.params.toList ++ Rows.boundNumbersSpec.plain.varTypes Tryz.prog).any (Tryz.prog.ifacesRec ·)) = true := by kernel_rfl
theorem boundNumbers_mapsOut : (Rows.boundNumbersRow.mapsOut == Tryz.prog.mapsAmong Tryz.f3.resultTypes.toList) = true := by kernel_rfl
theorem boundNumbers_loops : (Rows.boundNumbersRow.loops == (Tryz.f3.params.toList ++ Rows.boundNumbersSpec.plain.varTypes Tryz.prog).any (Tryz.prog.loopsFrom ·)) = true := by kernel_rfl
theorem boundNumbers_wide : (Rows.boundNumbersRow.wideKeys == (Tryz.f3.params.toList ++ Rows.boundNumbersSpec.plain.varTypes Tryz.prog ++ Tryz.f3.resultTypes.toList).any (Tryz.prog.wideKeysFrom ·)) = true := by kernel_rfl
theorem boundNumbers_readable : Rows.boundNumbersSpec.vars.all (Tryz.prog.varReadable ·) = true := by kernel_rfl
theorem boundNumbers_results : Tryz.f3.resultTypes.all (fun t => Tryz.prog.readableRec t && decide (t < Tryz.prog.types.size)) = true := by kernel_rfl
theorem boundNumbers_ifacesOut : (Rows.boundNumbersRow.ifacesOut == Tryz.f3.resultTypes.toList.any (Tryz.prog.ifacesRec ·)) = true := by kernel_rfl
theorem boundNumbers_loopsOut : (Rows.boundNumbersRow.loopsOut == Tryz.f3.resultTypes.toList.any (Tryz.prog.loopsFrom ·)) = true := by kernel_rfl
theorem boundNumbers_short : Rows.boundNumbersRow.shortTexts.isNone = true := by kernel_rfl
theorem boundNumbers_kinds : (Rows.boundNumbersRow.kinds == (if Rows.boundNumbersRow.domain.isEmpty then [] else Tryz.f3.params.toList.map fun t => match Tryz.prog.underlying t with | some (.int k) => some k | _ => Option.none)) = true := by kernel_rfl
theorem boundNumbers_pinned : (Rows.boundNumbersRow.pinned == Rows.boundNumbersRow.pinnedBy) = true := by kernel_rfl
theorem boundNumbers_veiled : (Rows.boundNumbersRow.veiled == (Tryz.f3.params.toList ++ Rows.boundNumbersSpec.plain.varTypes Tryz.prog ++ Tryz.f3.resultTypes.toList).any (Tryz.prog.veiledRec ·)) = true := by kernel_rfl
theorem boundNumbers_fits : Rows.boundNumbersRow.veiledFits Tryz.prog Tryz.f3.params.toList (Tryz.f3.params.toList ++ Rows.boundNumbersSpec.plain.varTypes Tryz.prog ++ Tryz.f3.resultTypes.toList) = true := by kernel_rfl
theorem boundNumbers_func : Tryz.prog.funcNamed "hostler/hostlerlaw24.BoundNumbers" = some 3 := by kernel_rfl
theorem boundNumbers_text : OpenClaim.wfByText (OpenSpec.ofChange Rows.boundNumbersSpec) Rows.boundNumbersRow = true := by kernel_rfl
theorem boundNumbers_goes : false = Rows.boundNumbersRow.goesBy Tryz.prog := by kernel_rfl
theorem boundNumbers_idx : Tryz.prog.inits.idxOf? 3 = Option.none := by kernel_rfl
theorem boundNumbers_rtypes : Tryz.f3.resultTypes = #[4] := by kernel_rfl
theorem boundNumbers_plain : (Rows.boundNumbersRow.plainKeys == Tryz.prog.plainKeys) = true := by rw [sh_plain]; rfl
theorem boundNumbers_lifted : (Rows.boundNumbersRow.lifted == Tryz.prog.liftsFinal) = true := (congrArg (fun x => Rows.boundNumbersRow.lifted == x) sh_lifts).trans rfl
theorem boundNumbers_make : (Tryz.prog.make == some Rows.boundNumbersRow.make) = true := (congrArg (fun x => x == some Rows.boundNumbersRow.make) sh_make).trans rfl
theorem boundNumbers_joined : joinedFacts Tryz.prog 3 Tryz.f3 Rows.boundNumbersSpec Rows.boundNumbersRow = true := by
  simp only [joinedFacts, Bool.and_eq_true]
  exact ⟨⟨⟨⟨⟨⟨⟨⟨⟨⟨⟨⟨⟨⟨⟨⟨⟨⟨⟨⟨⟨⟨⟨⟨⟨⟨⟨⟨⟨⟨⟨boundNumbers_wf, sh_laid⟩, sh_rowed⟩, boundNumbers_params⟩, boundNumbers_named⟩, boundNumbers_stops⟩, sh_stops⟩, boundNumbers_knobs⟩, sh_knobs⟩, boundNumbers_inPlace⟩, boundNumbers_unf⟩, boundNumbers_rec⟩, boundNumbers_vars⟩, boundNumbers_maps⟩, boundNumbers_ifaces⟩, boundNumbers_mapsOut⟩, boundNumbers_loops⟩, boundNumbers_wide⟩, boundNumbers_readable⟩, boundNumbers_results⟩, boundNumbers_ifacesOut⟩, boundNumbers_loopsOut⟩, boundNumbers_plain⟩, boundNumbers_short⟩, sh_heard⟩, sh_enter⟩, boundNumbers_lifted⟩, boundNumbers_make⟩, boundNumbers_kinds⟩, boundNumbers_pinned⟩, boundNumbers_veiled⟩, boundNumbers_fits⟩
end Go.Proofs.YtgjafaheglnheaaGreatDoor
