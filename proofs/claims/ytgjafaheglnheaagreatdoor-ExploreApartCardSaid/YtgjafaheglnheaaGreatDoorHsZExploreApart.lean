/- ExploreApart: for every input the law answers true, and each argument reads behind the call as before; the four tables start as the program's text lays them (the card ties that). -/
import Derived.Test.YtgjafaheglnheaaGreatDoorHsCShut
import Derived.Test.YtgjafaheglnheaaGreatDoorHsCLives
import Derived.Carry
import Derived.Test.YtgjafaheglnheaaGreatDoorHsCApart
import Derived.Test.YtgjafaheglnheaaGreatDoorHsZfExploreApart
namespace Go.Proofs.YtgjafaheglnheaaGreatDoor
open Go Go.Tr Go.ChangeShapes Go.WideShapes Go.ChangeAt Go.RowKit
set_option maxRecDepth 100000

theorem low {a : Int} (h : (Lit.int .i64 a).wf = true) : -9223372036854775808 ≤ a := by
  simp [Lit.wf, IntKind.min, IntKind.max, IntKind.bits, IntKind.signed] at h
  omega
theorem byte {a : Int} (h : (Lit.int .u8 a).wf = true) : 0 ≤ a ∧ a < 256 := by
  simp [Lit.wf, IntKind.min, IntKind.max, IntKind.bits, IntKind.signed] at h
  omega
theorem ub : Tryz.prog.underlying 5 = some (.int .u8) := by kernel_rfl
theorem lifted (os : Os) (started : os.Started) (H : Type) (enc : TypeId × Value → H) :
    ReturnsInHanded {} Tryz.checked os 4 .any (fun w args => (Rows.exploreApartSpec.pre enc Tryz.prog Tryz.f4 [] false w args ∧ laidMetH Tryz.prog laid4 w) ∧ sizedMet enc Tryz.prog Tryz.f4 (OpenSpec.ofChange Rows.exploreApartSpec) false w args)
      (Rows.exploreApartSpec.post enc Tryz.prog Tryz.f4 false true false false) := by
  refine returnsInHanded_of_change_and (C := Tryz.checked) (X := fun w _ => laidMetH Tryz.prog laid4 w) (fun _ _ _ hh h => h.of_heap hh) own started exploreApart_idx Tryz.func4
    (ChangeSpec.witness_shaped (enc := enc) (C := Tryz.checked) (os := os) (X := fun w _ => laidMetH Tryz.prog laid4 w) false (World.doorLaid Tryz.prog 85 os) #[.int .u8 1, .int .u8 1] 8 rfl (World.shaped_of_RefB (by kernel_rfl) (by kernel_rfl)) (by kernel_rfl) (by kernel_rfl) (by kernel_rfl) (door_met os _)) ?_
  intro W base args ds gs before hval0 hW _ _ hL _
  have hval : ∀ (j : Nat) t v, Tryz.f4.params[j]? = some t → args[j]? = some v → Value.okWide Tryz.prog W .any base t v := hval0
  have hW' := hW
  obtain ⟨p, q, hA0, hV, rfl, hfz, hnd⟩ := hW
  have hA : DataW.TrodAll enc Tryz.prog W 0 (fun _ => true) true Tryz.f4.params.toList args.toList ds p := hA0
  rw [Tryz.params4] at hA hval
  obtain ⟨v0, v1, d0, d1, p0, p1, rfl, rfl, rfl, h0, h1⟩ := trodAll_two hA
  obtain ⟨rfl, rfl⟩ := trodVars_none hV
  obtain ⟨a0, rfl, rfl, rfl, w0⟩ := open_int ub (hval 0 5 v0 rfl rfl) h0
  obtain ⟨a1, rfl, rfl, rfl, w1⟩ := open_int ub (hval 1 5 v1 rfl rfl) h1
  have hg := glob_of hL
  refine (explore_apart (x := a0) (y := a1) lives20 hg (byte w0).1 (byte w0).2 (byte w1).1 (byte w1).2 W rfl).mono ?_
  rintro e W' ⟨v, rfl, hk, rfl, hm⟩
  refine ⟨_, rfl, ?_⟩
  have hA' : ∃ pa, DataW.TrodAll enc Tryz.prog W' 0 (fun b => decide (b < W.heap.size)) true Tryz.f4.params.toList #[.int .u8 a0, .int .u8 a1].toList [.lit (.int .u8 a0), .lit (.int .u8 a1)] pa := by
    rw [Tryz.params4]
    exact ⟨_, trodAll_mk2 (shut_int ub w0) (shut_int ub w1)⟩
  exact post_law hW' exploreApart_rtypes rfl rfl hA' hk hm

theorem said : Rows.ExploreApartSaid :=
  OpenClaim.holds_of_wide 4 Tryz.f4 rfl rfl rfl rfl rfl rfl rfl ⟨rfl, rfl, rfl, rfl, rfl⟩ rfl rfl rfl rfl rfl exploreApart_func Tryz.func4 exploreApart_joined
    (of_decide_eq_true (by kernel_rfl)) (by unfold Func.isWrapper; first | (rw [if_pos (by decide +kernel)]; kernel_rfl) | (rw [if_neg (by decide +kernel)]; exact ⟨rfl, rfl⟩))
    (fun os started H enc _ => lifted os started H enc)

theorem card_holds : Rows.ExploreApartCardSaid :=
  Claim7.holds_tied_plain_at .later [] [.data, .widerDeep, .data, .widerDeep] true (true, "08ced14ec5ebe1c94154d062f2fc329b8960c0e82a2aec6dd10a142bd1670f51") true
    said (fun _ h => by cases h) exploreApart_text (fun _ h => by cases h) exploreApart_row_tie rfl ⟨rfl, rfl⟩ sh_main rfl
    (fun f fn hf hfn => by
      obtain rfl : f = 4 := Option.some.inj (exploreApart_func.symm.trans hf) |>.symm
      obtain rfl : fn = Tryz.f4 := (Option.some.inj (Tryz.func4.symm.trans hfn)).symm
      exact ⟨sh_looks, fun j t ht => by
        rw [Tryz.params4] at ht
        have hm : t ∈ [5, 5] := by simpa using Array.mem_of_getElem? ht
        have hall : ([5, 5].all fun u => !Tryz.prog.wantsStandIn u) = true := by kernel_rfl
        exact (show Tryz.prog.wantsStandIn t = false by simpa using List.all_eq_true.1 hall t hm)⟩)
    exploreApart_goes
end Go.Proofs.YtgjafaheglnheaaGreatDoor
