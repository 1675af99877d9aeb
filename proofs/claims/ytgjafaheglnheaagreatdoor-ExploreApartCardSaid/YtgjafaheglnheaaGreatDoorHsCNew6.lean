/- Package world: New. Conditions: the program's tables are laid. -/
import Derived.Test.YtgjafaheglnheaaGreatDoorHsCNew4
set_option maxRecDepth 20000
namespace Go.Tr
open Go.Proofs.Tryz (prog)

/-- A world at first. -/
def Wm.raw (P M G : Nat) : Wm := ⟨P, M, G, ⟨List.replicate (2 * (P + 2) + 1 + M + G) 0, 0⟩, fun _ => ⟨[], false, -1, 0⟩, fun _ => 0, [], Src.fresh P, ⟨P, 0, [], [], -1, M⟩, fun _ => Mc.fresh, fun _ => false, []⟩
def Wm.fresh (P M G : Nat) : Wm := Wm.born { Wm.raw P M G with idle := stopMs (putPs (Wm.raw P M G).idle P) M, all := fun _ => Mc.fresh }

section
variable {gb : Nat} {H : Heap}
theorem world_new {P M G : Nat} (hg : Glob gb H) (hc : cfgRight P M G = true) : CallsH prog 90 #[.agg #[i64 P, i64 M, i64 G]] H fun v H' => ∃ K, v = .tuple #[ptr K.b, i64 0] ∧ W gb K (fun k => H[k]?) H' (Wm.fresh P M G) := by
  have hb := hc
  unfold cfgRight at hb
  simp at hb
  refine new_first (x := Wm.raw P M G) (by show 1 ≤ P ∧ P ≤ 64; omega) (by show 1 ≤ M ∧ M ≤ 128; omega) hc (fun _ _ => rfl) (fun _ _ => rfl) rfl rfl rfl rfl (fun _ => rfl) hg rfl (fun K H' h => ⟨K, rfl, h⟩)

theorem world_new_no {p m g : Int} (hc : cfgRight p m g = false) : CallsH prog 90 #[.agg #[i64 p, i64 m, i64 g]] H fun v H' => v = .tuple #[.pointer none, i64 1] ∧ Mod H H' [] := by
  apply calls90
  simp only [t90]
  rw [wpH_box, wpH_loadAgg_eq agg_24 (by simp [Value.cells])]
  simp only [Value.cells]
  rw [show rowD (H.push (.cells #[i64 p, i64 m, i64 g] 24 (0, 0))) H.size 0 3 = #[i64 p, i64 m, i64 g] by simp, wpH_call_eq body_151]
  refine world_right.mono ?_
  rintro _ H1 ⟨rfl, m1⟩
  rw [hc]
  simp
  exact (Mod.push _ _).trans m1
end

end Go.Tr
