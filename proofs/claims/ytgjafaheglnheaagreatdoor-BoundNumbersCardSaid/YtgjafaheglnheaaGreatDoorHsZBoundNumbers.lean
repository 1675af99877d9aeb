/- BoundNumbers: for every input the law answers true, and each argument reads behind the call as before; the four tables start as the program's text lays them (the card ties that). -/
import Derived.Test.YtgjafaheglnheaaGreatDoorHsCShut
import Derived.Test.YtgjafaheglnheaaGreatDoorHsCLives
import Derived.Carry
import Derived.Test.YtgjafaheglnheaaGreatDoorHsCLaw24
import Derived.Test.YtgjafaheglnheaaGreatDoorHsZfBoundNumbers
namespace Go.Proofs.YtgjafaheglnheaaGreatDoor
open Go Go.Tr Go.ChangeShapes Go.WideShapes Go.ChangeAt Go.RowKit
set_option maxRecDepth 100000

theorem low {a : Int} (h : (Lit.int .i64 a).wf = true) : -9223372036854775808 ≤ a := by
  simp [Lit.wf, IntKind.min, IntKind.max, IntKind.bits, IntKind.signed] at h
  omega
theorem byte {a : Int} (h : (Lit.int .u8 a).wf = true) : 0 ≤ a ∧ a < 256 := by
  simp [Lit.wf, IntKind.min, IntKind.max, IntKind.bits, IntKind.signed] at h
  omega
theorem ub : Tryz.prog.underlying 5 = some (.int .u8) := by kernel_rfl
theorem lifted (os : Os) (started : os.Started) (H : Type) (enc : TypeId × Value → H) :
    ReturnsInHanded {} Tryz.checked os 3 .any (fun w args => (Rows.boundNumbersSpec.pre enc Tryz.prog Tryz.f3 [] false w args ∧ laidMetH Tryz.prog laid4 w) ∧ sizedMet enc Tryz.prog Tryz.f3 (OpenSpec.ofChange Rows.boundNumbersSpec) false w args)
      (Rows.boundNumbersSpec.post enc Tryz.prog Tryz.f3 false true false false) := by
  refine returnsInHanded_of_change_and (C := Tryz.checked) (X := fun w _ => laidMetH Tryz.prog laid4 w) (fun _ _ _ hh h => h.of_heap hh) own started boundNumbers_idx Tryz.func3
    (ChangeSpec.witness_shaped (enc := enc) (C := Tryz.checked) (os := os) (X := fun w _ => laidMetH Tryz.prog laid4 w) false (World.doorLaid Tryz.prog 85 os) #[.int .i64 1, .int .i64 1, .int .i64 1, .int .i64 1] 8 rfl (World.shaped_of_RefB (by kernel_rfl) (by kernel_rfl)) (by kernel_rfl) (by kernel_rfl) (by kernel_rfl) (door_met os _)) ?_
  intro W base args ds gs before hval0 hW _ _ hL _
  have hval : ∀ (j : Nat) t v, Tryz.f3.params[j]? = some t → args[j]? = some v → Value.okWide Tryz.prog W .any base t v := hval0
  have hW' := hW
  obtain ⟨p, q, hA0, hV, rfl, hfz, hnd⟩ := hW
  have hA : DataW.TrodAll enc Tryz.prog W 0 (fun _ => true) true Tryz.f3.params.toList args.toList ds p := hA0
  rw [Tryz.params3] at hA hval
  obtain ⟨v0, v1, v2, v3, d0, d1, d2, d3, p0, p1, p2, p3, rfl, rfl, rfl, h0, h1, h2, h3⟩ := trodAll_four hA
  obtain ⟨rfl, rfl⟩ := trodVars_none hV
  obtain ⟨a0, rfl, rfl, rfl, w0⟩ := open_int u3 (hval 0 3 v0 rfl rfl) h0
  obtain ⟨a1, rfl, rfl, rfl, w1⟩ := open_int u3 (hval 1 3 v1 rfl rfl) h1
  obtain ⟨a2, rfl, rfl, rfl, w2⟩ := open_int u3 (hval 2 3 v2 rfl rfl) h2
  obtain ⟨a3, rfl, rfl, rfl, w3⟩ := open_int u3 (hval 3 3 v3 rfl rfl) h3
  have hg := glob_of hL
  refine (bound_numbers (p := a0) (m := a1) (g := a2) (k := a3) lives20 hg (low w3) W rfl).mono ?_
  rintro e W' ⟨v, rfl, hk, rfl, hm⟩
  refine ⟨_, rfl, ?_⟩
  have hA' : ∃ pa, DataW.TrodAll enc Tryz.prog W' 0 (fun b => decide (b < W.heap.size)) true Tryz.f3.params.toList #[.int .i64 a0, .int .i64 a1, .int .i64 a2, .int .i64 a3].toList [.lit (.int .i64 a0), .lit (.int .i64 a1), .lit (.int .i64 a2), .lit (.int .i64 a3)] pa := by
    rw [Tryz.params3]
    exact ⟨_, trodAll_mk4 (shut_int u3 w0) (shut_int u3 w1) (shut_int u3 w2) (shut_int u3 w3)⟩
  exact post_law hW' boundNumbers_rtypes rfl rfl hA' hk hm

theorem said : Rows.BoundNumbersSaid :=
  OpenClaim.holds_of_wide 3 Tryz.f3 rfl rfl rfl rfl rfl rfl rfl ⟨rfl, rfl, rfl, rfl, rfl⟩ rfl rfl rfl rfl rfl boundNumbers_func Tryz.func3 boundNumbers_joined
    (of_decide_eq_true (by kernel_rfl)) (by unfold Func.isWrapper; first | (rw [if_pos (by decide +kernel)]; kernel_rfl) | (rw [if_neg (by decide +kernel)]; exact ⟨rfl, rfl⟩))
    (fun os started H enc _ => lifted os started H enc)

theorem card_holds : Rows.BoundNumbersCardSaid :=
  Claim7.holds_tied_plain_at .later [] [.data, .widerDeep, .data, .widerDeep] true (true, "08ced14ec5ebe1c94154d062f2fc329b8960c0e82a2aec6dd10a142bd1670f51") true
    said (fun _ h => by cases h) boundNumbers_text (fun _ h => by cases h) boundNumbers_row_tie rfl ⟨rfl, rfl⟩ sh_main rfl
    (fun f fn hf hfn => by
      obtain rfl : f = 3 := Option.some.inj (boundNumbers_func.symm.trans hf) |>.symm
      obtain rfl : fn = Tryz.f3 := (Option.some.inj (Tryz.func3.symm.trans hfn)).symm
      exact ⟨sh_looks, fun j t ht => by
        rw [Tryz.params3] at ht
        have hm : t ∈ [3, 3, 3, 3] := by simpa using Array.mem_of_getElem? ht
        have hall : ([3, 3, 3, 3].all fun u => !Tryz.prog.wantsStandIn u) = true := by kernel_rfl
        exact (show Tryz.prog.wantsStandIn t = false by simpa using List.all_eq_true.1 hall t hm)⟩)
    boundNumbers_goes
end Go.Proofs.YtgjafaheglnheaaGreatDoor
