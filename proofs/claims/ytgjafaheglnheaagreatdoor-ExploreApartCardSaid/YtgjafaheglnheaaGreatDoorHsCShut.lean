/- From a contract over heaps to what a row asks of a law: true, nothing changed. Condition: the row's own list of variables is met. -/
import Derived.Test.YtgjafaheglnheaaGreatDoorHsCLaid
import Derived.SevenTiedAt
namespace Go.Proofs.YtgjafaheglnheaaGreatDoor
open Go Go.Tr Go.ChangeShapes Go.WideShapes Go.ChangeAt Go.RowKit
set_option maxRecDepth 100000

theorem door_met (os : Os) (args : Array Value) : laidMetH Tryz.prog laid4 ((World.doorLaid Tryz.prog 85 os).forCall (fun _ _ => 0) ⟨#[], args, []⟩).memory :=
  laidMetH_of_parts3 (fuel := 8) (laidMet_of_run' 8 (by kernel_rfl) (by kernel_rfl)) (by kernel_rfl) (by kernel_rfl)

theorem kept_of {W W' : World} {may : MemPlace → Prop} (k : Keeps W W') (m : Mod W.heap W'.heap []) : W.keptBut W' may := by
  refine ⟨k.os, k.output, fun i hi => ?_⟩
  have e := m.old i hi (by simp)
  rw [e]
  have := World.keptBut_refl W may
  exact this.2.2 i hi

theorem u4 : Tryz.prog.underlying 4 = some .bool := by kernel_rfl
theorem u3 : Tryz.prog.underlying 3 = some (.int .i64) := by kernel_rfl
theorem u2 : Tryz.prog.underlying 2 = some (.int .i64) := by kernel_rfl

/-- What a law leaves, put together. -/
theorem post_law {H : Type} {enc : TypeId × Value → H} {fn : Func} {s : ChangeSpec} {W W' : World} {args : Array Value} {ds : List (DataW H)} {before : List MemPlace}
    (hW : DataW.Whole enc Tryz.prog fn.params.toList s.vars false W args.toList ds [] before) (hr : fn.resultTypes = #[4]) (hs : s.fn H ds = { results := [.lit (.bool true)], args := ds }) (hvars : s.vars = [])
    (hA : ∃ pa, DataW.TrodAll enc Tryz.prog W' 0 (fun b => decide (b < W.heap.size)) true fn.params.toList args.toList ds pa) (k : Keeps W W') (m : Mod W.heap W'.heap []) :
    s.post enc Tryz.prog fn false true false false W args (.bool true) W' := by
  obtain ⟨pa, hA⟩ := hA
  refine ⟨ds, [], before, [], pa, [], hW, ?_, ?_, ?_, kept_of k m, by intro h; cases h⟩
  · rw [List.append_nil, hs, hr]
    exact trodAll_mk1 (shut_bool u4 true)
  · rw [List.append_nil, hs]
    exact hA
  · rw [List.append_nil, hs, hvars]
    rfl
end Go.Proofs.YtgjafaheglnheaaGreatDoor
