/- ExploreOrders: for every input the law answers true, and each argument reads behind the call as before; the four tables start as the program's text lays them (the card ties that). -/
import Derived.Test.YtgjafaheglnheaaGreatDoorHsCShut
import Derived.Test.YtgjafaheglnheaaGreatDoorHsCLives
import Derived.Test.YtgjafaheglnheaaGreatDoorHsCLaw28
import Derived.Test.YtgjafaheglnheaaGreatDoorHsZfExploreOrders
namespace Go.Proofs.YtgjafaheglnheaaGreatDoor
open Go Go.Tr Go.ChangeShapes Go.WideShapes Go.ChangeAt Go.RowKit
set_option maxRecDepth 100000

theorem lifted (os : Os) (started : os.Started) (H : Type) (enc : TypeId × Value → H) :
    ReturnsInHanded {} Tryz.checked os 5 .any (fun w args => (Rows.exploreOrdersSpec.pre enc Tryz.prog Tryz.f5 [] false w args ∧ laidMetH Tryz.prog laid4 w) ∧ sizedMet enc Tryz.prog Tryz.f5 (OpenSpec.ofChange Rows.exploreOrdersSpec) false w args)
      (Rows.exploreOrdersSpec.post enc Tryz.prog Tryz.f5 false true false false) := by
  refine returnsInHanded_of_change_and (C := Tryz.checked) (X := fun w _ => laidMetH Tryz.prog laid4 w) (fun _ _ _ hh h => h.of_heap hh) own started exploreOrders_idx Tryz.func5
    (ChangeSpec.witness_shaped (enc := enc) (C := Tryz.checked) (os := os) (X := fun w _ => laidMetH Tryz.prog laid4 w) false (World.doorLaid Tryz.prog 85 os) #[.int .i64 1, .int .i64 1, .int .i64 0] 8 rfl (World.shaped_of_RefB (by kernel_rfl) (by kernel_rfl)) (by kernel_rfl) (by kernel_rfl) (by kernel_rfl) (door_met os _)) ?_
  intro W base args ds gs before hval0 hW _ _ hL _
  have hval : ∀ (j : Nat) t v, Tryz.f5.params[j]? = some t → args[j]? = some v → Value.okWide Tryz.prog W .any base t v := hval0
  have hW' := hW
  obtain ⟨p, q, hA0, hV, rfl, hfz, hnd⟩ := hW
  have hA : DataW.TrodAll enc Tryz.prog W 0 (fun _ => true) true Tryz.f5.params.toList args.toList ds p := hA0
  rw [Tryz.params5] at hA hval
  obtain ⟨v0, v1, v2, d0, d1, d2, p0, p1, p2, rfl, rfl, rfl, h0, h1, h2⟩ := trodAll_three hA
  obtain ⟨rfl, rfl⟩ := trodVars_none hV
  obtain ⟨m, rfl, rfl, rfl, w0⟩ := open_int u3 (hval 0 3 v0 rfl rfl) h0
  obtain ⟨l, rfl, rfl, rfl, w1⟩ := open_int u3 (hval 1 3 v1 rfl rfl) h1
  obtain ⟨i, rfl, rfl, rfl, w2⟩ := open_int u3 (hval 2 3 v2 rfl rfl) h2
  have hg := glob_of hL
  refine (explore_orders (m := m) (l := l) (i := i) lives20 hg W rfl).mono ?_
  rintro e W' ⟨v, rfl, hk, rfl, hm⟩
  refine ⟨_, rfl, ?_⟩
  have hA' : ∃ pa, DataW.TrodAll enc Tryz.prog W' 0 (fun b => decide (b < W.heap.size)) true Tryz.f5.params.toList #[.int .i64 m, .int .i64 l, .int .i64 i].toList [.lit (.int .i64 m), .lit (.int .i64 l), .lit (.int .i64 i)] pa := by
    rw [Tryz.params5]
    exact ⟨_, trodAll_mk3 (shut_int u3 w0) (shut_int u3 w1) (shut_int u3 w2)⟩
  exact post_law hW' exploreOrders_rtypes rfl rfl hA' hk hm

theorem said : Rows.ExploreOrdersSaid :=
  OpenClaim.holds_of_wide 5 Tryz.f5 rfl rfl rfl rfl rfl rfl rfl ⟨rfl, rfl, rfl, rfl, rfl⟩ rfl rfl rfl rfl rfl exploreOrders_func Tryz.func5 exploreOrders_joined
    (of_decide_eq_true (by kernel_rfl)) (by unfold Func.isWrapper; first | (rw [if_pos (by decide +kernel)]; kernel_rfl) | (rw [if_neg (by decide +kernel)]; exact ⟨rfl, rfl⟩))
    (fun os started H enc _ => lifted os started H enc)

theorem card_holds : Rows.ExploreOrdersCardSaid :=
  Claim7.holds_tied_plain_at .later [] [.data, .widerDeep, .data, .widerDeep] true (true, "08ced14ec5ebe1c94154d062f2fc329b8960c0e82a2aec6dd10a142bd1670f51") true
    said (fun _ h => by cases h) exploreOrders_text (fun _ h => by cases h) exploreOrders_row_tie rfl ⟨rfl, rfl⟩ sh_main rfl
    (fun f fn hf hfn => by
      obtain rfl : f = 5 := Option.some.inj (exploreOrders_func.symm.trans hf) |>.symm
      obtain rfl : fn = Tryz.f5 := (Option.some.inj (Tryz.func5.symm.trans hfn)).symm
      exact ⟨sh_looks, fun j t ht => by
        rw [Tryz.params5] at ht
        have hm : t ∈ [3, 3, 3] := by simpa using Array.mem_of_getElem? ht
        have hall : ([3, 3, 3].all fun u => !Tryz.prog.wantsStandIn u) = true := by kernel_rfl
        exact (show Tryz.prog.wantsStandIn t = false by simpa using List.all_eq_true.1 hall t hm)⟩)
    exploreOrders_goes
end Go.Proofs.YtgjafaheglnheaaGreatDoor
