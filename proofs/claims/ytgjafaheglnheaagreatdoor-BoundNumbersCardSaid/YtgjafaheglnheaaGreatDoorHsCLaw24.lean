/- The law BoundNumbers answers true, given that the example lives. Conditions: the program's tables are laid. -/
import Derived.Test.YtgjafaheglnheaaGreatDoorHsCNew6
import Derived.Test.YtgjafaheglnheaaGreatDoorHsCLaw28
set_option maxRecDepth 20000
namespace Go.Tr
open Go.Proofs.Tryz (prog)

/-- B of a config, F of a config: as they are reckoned. -/
def bOf (p m g : Int) : Int := if cfgRight p m g = true then IntKind.i64.wrap (IntKind.i64.wrap (64 * IntKind.i64.wrap (m + 4)) * IntKind.i64.wrap (IntKind.i64.wrap (IntKind.i64.wrap (p + 8) * IntKind.i64.wrap (p + 8)) + g)) else 0
def kOf (k : Int) : Int := if 1048576 < (if 1 < k then k else 1) then 1048576 else (if 1 < k then k else 1)
def fOf (p m g k : Int) : Int := if cfgRight p m g = true then
  IntKind.i64.wrap (IntKind.i64.wrap (IntKind.i64.wrap (IntKind.i64.wrap (64 * IntKind.i64.wrap (g + 8)) * IntKind.i64.wrap (kOf k + 8)) * IntKind.i64.wrap (m + 4)) * IntKind.i64.wrap (p + 8)) else 0

theorem mul_le {a b c d : Int} (h1 : a ≤ c) (h2 : b ≤ d) (h3 : 0 ≤ b) (h4 : 0 ≤ c) : a * b ≤ c * d := Int.mul_le_mul h1 h2 h3 h4
theorem mul_pos' {a b : Int} (h1 : 0 < a) (h2 : 0 < b) : 0 < a * b := Int.mul_pos h1 h2

theorem bOf_pos {p m g : Int} (h : cfgRight p m g = true) : 0 < bOf p m g := by
  have hb := h
  unfold cfgRight at hb
  simp at hb
  unfold bOf
  rw [if_pos h]
  rw [wrap_i64 (m + 4) (by omega) (by omega), wrap_i64 (p + 8) (by omega) (by omega), wrap_i64 (64 * (m + 4)) (by omega) (by omega)]
  have q0 : 0 < (p + 8) * (p + 8) := mul_pos' (by omega) (by omega)
  have q1 : (p + 8) * (p + 8) ≤ 72 * 72 := mul_le (by omega) (by omega) (by omega) (by omega)
  rw [wrap_i64 ((p + 8) * (p + 8)) (by omega) (by omega), wrap_i64 ((p + 8) * (p + 8) + g) (by omega) (by omega)]
  have r0 : 0 < 64 * (m + 4) * ((p + 8) * (p + 8) + g) := mul_pos' (by omega) (by omega)
  have r1 : 64 * (m + 4) * ((p + 8) * (p + 8) + g) ≤ 10000 * 10000 := mul_le (by omega) (by omega) (by omega) (by omega)
  rw [wrap_i64 _ (by omega) (by omega)]
  exact r0
theorem kOf_range (k : Int) : 1 ≤ kOf k ∧ kOf k ≤ 1048576 := by unfold kOf; repeat' split <;> omega
theorem fOf_eq {p m g k : Int} (h : cfgRight p m g = true) : fOf p m g k = 64 * (g + 8) * (kOf k + 8) * (m + 4) * (p + 8) ∧ 0 < fOf p m g k := by
  have hb := h
  unfold cfgRight at hb
  simp at hb
  obtain ⟨k1, k2⟩ := kOf_range k
  unfold fOf
  rw [if_pos h]
  rw [wrap_i64 (m + 4) (by omega) (by omega), wrap_i64 (p + 8) (by omega) (by omega), wrap_i64 (g + 8) (by omega) (by omega), wrap_i64 (kOf k + 8) (by omega) (by omega), wrap_i64 (64 * (g + 8)) (by omega) (by omega)]
  have a0 : 0 < 64 * (g + 8) * (kOf k + 8) := mul_pos' (by omega) (by omega)
  have a1 : 64 * (g + 8) * (kOf k + 8) ≤ 300000 * 1100000 := mul_le (by omega) (by omega) (by omega) (by omega)
  rw [wrap_i64 (64 * (g + 8) * (kOf k + 8)) (by omega) (by omega)]
  have b0 : 0 < 64 * (g + 8) * (kOf k + 8) * (m + 4) := mul_pos' a0 (by omega)
  have b1 : 64 * (g + 8) * (kOf k + 8) * (m + 4) ≤ 330000000000 * 132 := mul_le (by omega) (by omega) (by omega) (by omega)
  rw [wrap_i64 (64 * (g + 8) * (kOf k + 8) * (m + 4)) (by omega) (by omega)]
  have c0 : 0 < 64 * (g + 8) * (kOf k + 8) * (m + 4) * (p + 8) := mul_pos' b0 (by omega)
  have c1 : 64 * (g + 8) * (kOf k + 8) * (m + 4) * (p + 8) ≤ 43560000000000 * 72 := mul_le (by omega) (by omega) (by omega) (by omega)
  rw [wrap_i64 _ (by omega) (by omega)]
  exact ⟨rfl, c0⟩
theorem fOf_grows {p m g k : Int} (h : cfgRight p m g = true) : fOf p m g k ≤ fOf p m g ((if k < 1073741824 then k else 1073741824) + 1) := by
  have hb := h
  unfold cfgRight at hb
  simp at hb
  rw [(fOf_eq h).1, (fOf_eq h).1]
  have hk : kOf k ≤ kOf ((if k < 1073741824 then k else 1073741824) + 1) := by unfold kOf; repeat' split <;> omega
  obtain ⟨k1, k2⟩ := kOf_range k
  refine Int.mul_le_mul_of_nonneg_right (Int.mul_le_mul_of_nonneg_right (Int.mul_le_mul_of_nonneg_left (by omega) (by omega)) (by omega)) (by omega)

section
variable {gb : Nat} {H : Heap} {p m g : Int}

theorem bound_right (hg : Glob gb H) : CallsH prog 105 #[.agg #[i64 p, i64 m, i64 g]] H fun v H' => v = .bool (cfgRight p m g) ∧ Mod H H' [] := by
  apply calls105
  simp only [t105]
  rw [wpH_box, la_24 (by simp [Value.cells])]
  simp only [Value.cells]
  rw [show rowD (H.push (.cells #[i64 p, i64 m, i64 g] 24 (0, 0))) H.size 0 3 = #[i64 p, i64 m, i64 g] by simp, wpH_call_eq body_90]
  have hg1 := hg.push (.cells #[i64 p, i64 m, i64 g] 24 (0, 0))
  cases hc : cfgRight p m g
  · refine (world_new_no hc).mono ?_
    rintro _ H1 ⟨rfl, m1⟩
    try simp
    exact (Mod.push _ _).trans m1
  · have hb := hc
    unfold cfgRight at hb
    simp at hb
    obtain ⟨pn, rfl⟩ : ∃ n : Nat, p = n := ⟨p.toNat, by omega⟩
    obtain ⟨mn, rfl⟩ : ∃ n : Nat, m = n := ⟨m.toNat, by omega⟩
    obtain ⟨gn, rfl⟩ : ∃ n : Nat, g = n := ⟨g.toNat, by omega⟩
    refine (world_new hg1 hc).mono ?_
    rintro _ H1 ⟨K, rfl, h1⟩
    try simp
    exact (Mod.push _ _).trans h1.mod_of

theorem bound_B (hg : Glob gb H) : CallsH prog 24 #[.agg #[i64 p, i64 m, i64 g]] H fun v H' => v = i64 (bOf p m g) ∧ Mod H H' [] := by
  apply calls24
  simp only [t24]
  rw [wpH_box, la_24 (by simp [Value.cells])]
  simp only [Value.cells]
  rw [show rowD (H.push (.cells #[i64 p, i64 m, i64 g] 24 (0, 0))) H.size 0 3 = #[i64 p, i64 m, i64 g] by simp, wpH_call_eq body_105]
  refine (bound_right (hg.push _)).mono ?_
  rintro _ H1 ⟨rfl, m1⟩
  have hb := m1.get (get_push_new H (.cells #[i64 p, i64 m, i64 g] 24 (0, 0))) (by simp)
  have mm : Mod H H1 [] := (Mod.push _ _).trans m1
  cases hc : cfgRight p m g
  · simp [bOf, hc]; exact mm
  · simp [blk_ok hb, blk_cell hb, Nat.blt, bOf, hc]; exact mm

theorem bound_F (hg : Glob gb H) {k : Int} : CallsH prog 25 #[.agg #[i64 p, i64 m, i64 g], i64 k] H fun v H' => v = i64 (fOf p m g k) ∧ Mod H H' [] := by
  apply calls25
  simp only [t25]
  rw [wpH_box, la_24 (by simp [Value.cells])]
  simp only [Value.cells]
  rw [show rowD (H.push (.cells #[i64 p, i64 m, i64 g] 24 (0, 0))) H.size 0 3 = #[i64 p, i64 m, i64 g] by simp, wpH_call_eq body_105]
  refine (bound_right (hg.push _)).mono ?_
  rintro _ H1 ⟨rfl, m1⟩
  have hb := m1.get (get_push_new H (.cells #[i64 p, i64 m, i64 g] 24 (0, 0))) (by simp)
  have mm : Mod H H1 [] := (Mod.push _ _).trans m1
  have ek : (if (1048576 : Int) < (if 1 < k then k else 1) then (1048576 : Int) else (if 1 < k then k else 1)) = kOf k := rfl
  cases hc : cfgRight p m g
  · simp [fOf, hc]; exact mm
  · simp [blk_ok hb, blk_cell hb, Nat.blt, fOf, hc, ek]; exact mm

theorem ref_may : CallsH prog 28 #[i64 p, i64 m, i64 g] H fun v H' => v = .bool (cfgRight p m g) ∧ H' = H := by
  apply calls28
  unfold cfgRight
  by_cases a1 : 1 ≤ p
  · by_cases a2 : p ≤ 64
    · by_cases a3 : p ≤ m
      · by_cases a4 : m ≤ 128
        · by_cases a5 : 1 ≤ g
          · simp [t28, a1, a2, a3, a4, a5]
          · simp [t28, a1, a2, a3, a4, a5]
        · simp [t28, a1, a2, a3, a4]
      · simp [t28, a1, a2, a3]
    · simp [t28, a1, a2]
  · simp [t28, a1]

theorem ref_B : CallsH prog 26 #[i64 p, i64 m, i64 g] H fun v H' => v = i64 (bOf p m g) ∧ H' = H := by
  apply calls26
  simp [t26]
  refine ref_may.mono ?_
  rintro _ _ ⟨rfl, rfl⟩
  cases hc : cfgRight p m g <;> simp [bOf, hc]

theorem ref_F {k : Int} : CallsH prog 27 #[i64 p, i64 m, i64 g, i64 k] H fun v H' => v = i64 (fOf p m g k) ∧ H' = H := by
  apply calls27
  simp [t27]
  refine ref_may.mono ?_
  rintro _ _ ⟨rfl, rfl⟩
  cases hc : cfgRight p m g
  · simp [fOf, hc]
  · by_cases h1 : k < 1
    · have ek : kOf k = 1 := by unfold kOf; repeat' split <;> omega
      simp [fOf, hc, h1, ek]
    · by_cases h2 : 1048576 < k
      · have ek : kOf k = 1048576 := by unfold kOf; repeat' split <;> omega
        simp [fOf, hc, h1, h2, ek]
      · have ek : kOf k = k := by unfold kOf; repeat' split <;> omega
        simp [fOf, hc, h1, h2, ek]

theorem lives24 (L : Lives20) (hg : Glob gb H) : CallsH prog 23 #[] H fun v H' => v = .bool true ∧ Mod H H' [] := by
  apply calls23
  simp [t23]
  refine (L gb H hg).mono ?_
  rintro _ H1 ⟨rfl, m1⟩
  try simp
  refine (bound_B (p := 1) (m := 1) (g := 1) (hg.of_mod m1 (by simp))).mono ?_
  rintro _ H2 ⟨rfl, m2⟩
  have e : bOf 1 1 1 = 26240 := by decide
  simp [e]
  exact m1.trans m2

theorem bound_numbers (L : Lives20) (hg : Glob gb H) {k : Int} (hk : -9223372036854775808 ≤ k) : CallsH prog 3 #[i64 p, i64 m, i64 g, i64 k] H fun v H' => v = .bool true ∧ Mod H H' [] := by
  apply calls3
  simp only [t3]
  rw [wpH_call_eq body_23]
  refine (lives24 L hg).mono ?_
  rintro _ H1 ⟨rfl, m1⟩
  have hg1 := hg.of_mod m1 (by simp)
  simp
  rw [wpH_alloc zero_24]
  refine wpH_storeAgg agg_24 rfl (by simp) (by simp [Value.cells]) (by simp) ?_
  simp [setRowH, Value.cells, setH_push_new]
  have hg2 := hg1.push (.cells #[i64 p, i64 m, i64 g] 24 (0, 0))
  have m2 : Mod H (H1.push (.cells #[i64 p, i64 m, i64 g] 24 (0, 0))) [] := m1.trans (Mod.push _ _)
  have hb := get_push_new H1 (.cells #[i64 p, i64 m, i64 g] 24 (0, 0))
  have hrow : (Array.extract #[i64 p, i64 m, i64 g] 0 3) = #[i64 p, i64 m, i64 g] := rfl
  refine wpH_callW body_24 ?_
  refine (bound_B hg2).mono ?_
  rintro _ H3 ⟨rfl, m3⟩
  have hb3 := m3.get hb (by simp)
  refine ⟨held_cons_loadAgg agg_24 (by rw [blk_rowOk hb3]; rfl) (by rw [blk_row hb3]; rfl) (held_nil _ _), ?_⟩
  try simp
  refine (bound_F (k := k) (hg2.of_mod m3 (by simp))).mono ?_
  rintro _ H4 ⟨rfl, m4⟩
  have hb4 := m4.get hb3 (by simp)
  have hg4 := (hg2.of_mod m3 (by simp)).of_mod m4 (by simp)
  have mm := (m2.trans m3).trans m4
  try simp
  refine ref_B.mono ?_
  rintro _ _ ⟨rfl, rfl⟩
  try simp
  refine ref_F.mono ?_
  rintro _ _ ⟨rfl, rfl⟩
  try simp
  refine ref_may.mono ?_
  rintro _ _ ⟨rfl, rfl⟩
  cases hc : cfgRight p m g
  · simp; exact mm
  have hB := bOf_pos hc
  have hF := (fOf_eq (k := k) hc).2
  simp [hB, hF]
  rw [la_24 (by rw [blk_rowOk hb4]; rfl)]
  simp [blk_row hb4, hrow]
  rw [wrap_i64 _ (by split <;> omega) (by split <;> omega)]
  refine (bound_F hg4).mono ?_
  rintro _ H5 ⟨rfl, m5⟩
  have hle := fOf_grows (k := k) hc
  have e : (if k < 1073741824 then k else 1073741824) = (if 1073741824 < k then 1073741824 else k) := by split <;> split <;> omega
  rw [e] at hle
  simp [hle]
  exact mm.trans m5
end

end Go.Tr
