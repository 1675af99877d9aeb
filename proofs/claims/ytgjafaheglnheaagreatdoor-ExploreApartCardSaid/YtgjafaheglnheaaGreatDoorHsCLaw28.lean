/- The laws of layer 28: ExploreOrders answers true, given that the example lives. Conditions: the program's tables are laid. -/
import Derived.Test.YtgjafaheglnheaaGreatDoorHsCExplore
import Derived.Test.YtgjafaheglnheaaGreatDoorHsCAcc
set_option maxRecDepth 20000
namespace Go.Tr
open Go.Proofs.Tryz (prog)

section
variable {gb : Nat} {H : Heap}

theorem lives28 (L : Lives20) (h : Glob gb H) : CallsH prog 29 #[] H fun v H' => v = .bool true ∧ Mod H H' [] := by
  apply calls29
  simp [t29]
  refine (L gb H h).mono ?_
  rintro _ H1 ⟨rfl, m1⟩
  try simp
  refine (order_spec (by decide)).mono ?_
  rintro v H2 h2
  try simp
  refine wpH_buildSlice (bs_33_3 _ _ _) ?_
  have e : orderL 2 3 5 = [1, 0, 1] := by decide
  rw [e] at h2
  have ho := h2.owns.of_mod (Mod.push (.cells #[.int .i64 1, .int .i64 0, .int .i64 1] 3 (0, 0)) []) (by simp)
  try simp
  refine (same_spec (xs := [1, 0, 1]) (ys := [1, 0, 1]) ho.reads (.inr ⟨H2.size, 0, 3, 3, rfl, by simp, by rw [blk_rowOk (get_push_new _ _)]; rfl, by rw [blk_row (get_push_new _ _)]; rfl⟩) (by decide)).mono ?_
  rintro _ _ ⟨rfl, rfl⟩
  try simp
  exact (m1.trans h2.mod).trans (Mod.push _ _)

theorem explore_orders (L : Lives20) (h : Glob gb H) {m l i : Int} : CallsH prog 5 #[i64 m, i64 l, i64 i] H fun v H' => v = .bool true ∧ Mod H H' [] := by
  apply calls5
  simp [t5]
  refine (lives28 L h).mono ?_
  rintro _ H1 ⟨rfl, m1⟩
  by_cases hl : 1048576 < l
  · simp [hl]
    refine (lives28 L (h.of_mod m1 (by simp))).mono ?_
    rintro _ H2 ⟨rfl, m2⟩
    try simp
    exact m1.trans m2
  by_cases hm : 1099511627776 < m
  · simp [hl, hm]
    refine (lives28 L (h.of_mod m1 (by simp))).mono ?_
    rintro _ H2 ⟨rfl, m2⟩
    try simp
    exact m1.trans m2
  simp [hl, hm]
  refine (count_spec (by omega)).mono ?_
  rintro _ H1' ⟨rfl, h1⟩
  rw [h1]
  clear h1 H1'
  try simp
  refine (refCount_spec (by omega) (by omega)).mono ?_
  rintro _ H1' ⟨rfl, h1⟩
  rw [h1]
  clear h1 H1'
  -- behind the look at i
  have rest : ∀ H2, Mod H H2 [] → wpH prog (fun vs H' => retVal vs = .bool true ∧ Mod H H' []) (.join (.pure (.bin .gtr 3 (.tmp 46) (.const (.int .i64 300)) (i64 (cnt m l)) (.int .i64 300)) fun v47 => .ite v47 (.leaf none [(.bool
      true)]) (.pure (.bin .gtr 3 (.tmp 49) (.const (.int .i64 300)) (i64 l) (.int .i64 300)) fun v50 => .leaf none [v50])) fun e s3 => onE e (.ite (sl s3 0) (.ret [(.bool true)]) (.pure
      (.builtin .max #[3, 3] 3 #[true, false] #[(.int .i64 0), (i64 l)]) fun v53 => .op [] (.mkSlice 33 v53 v53) fun v54 => .loop [v54, (.int .i64 0)] (fun s4 => .pure (.bin .lss 3 (.tmp
      56) (.tmp 55) (sl s4 1) (i64 (cnt m l))) fun v57 => .ite v57 (.op [] (.callv (.func (.func 31) #[] #[]) #[(i64 m), (i64 l), (sl s4 1)]) fun v62 => .op [] (.callv (.func (.func 33) #[] #[]) #[v62, (sl
      s4 0)]) fun v64 => .pure (.un .not v64) fun v65 => .ite v65 (.ret [(.bool false)]) (.op [] (.callv (.func (.func 34) #[] #[]) #[(sl s4 0), (i64 m)]) fun v68 => .pure (.bin .add 3
      (.tmp 56) (.const (.int .i64 1)) (sl s4 1) (.int .i64 1)) fun v69 => .leaf none [v68, v69])) (.leaf (some 0) [(sl s4 0), (sl s4 1)])) (fun x _ => (if Nat.beq x 0 then .ret
      [(.bool true)] else .bad)))) fun _ => .bad) (fun _ _ _ => False) H2 := by
    intro H2 m2
    by_cases hn : 300 < cnt m l
    · simp [hn]; exact m2
    by_cases hl3 : 300 < l
    · simp [hn, hl3]; exact m2
    obtain ⟨ln, hln, hmax⟩ : ∃ ln : Nat, ln = l.toNat ∧ (if 0 < l then l else 0) = (ln : Int) := ⟨l.toNat, rfl, by split <;> omega⟩
    simp [hn, hl3, hmax]
    refine wpH_make make_33 rfl (by decide) (by omega) (by omega) ?_
    try simp
    refine wpH_loop (fun s H' => ∃ (k : Nat) (v : Value), s = [v, i64 k] ∧ (k : Int) ≤ max 0 (cnt m l) ∧ Owns H' 1 3 v ((digsI m.toNat ln k).map i64) ∧ Mod H H' []) (fun s _ => (cnt m l - intOf (sl s 1)).toNat)
      ⟨0, .slice (some ⟨H2.size, 0, none⟩) ln ln, rfl, by omega, ?_, m2.trans (Mod.push _ _)⟩ ?_
    · rw [digs_zero]
      exact .inr ⟨H2.size, ln, ln, List.replicate ln (i64 0), rfl, by simp, by simp, Nat.le_refl _, get_push_new _ _, by simp⟩
    · rintro s H3 ⟨k, v, rfl, hk, ho, m3⟩
      by_cases hlt : (k : Int) < cnt m l
      · obtain ⟨p0, p1, p2, -⟩ := cnt_pos (by omega) hlt
        have hw : IntKind.i64.wrap ((k : Int) + 1) = ((k + 1 : Nat) : Int) := by rw [wrap_i64 _ (by omega) (by omega)]; simp
        simp [hlt]
        refine (order_spec (by omega)).mono ?_
        rintro u H4 h4
        have e : orderL m l k = digsI m.toNat ln k := by unfold orderL; rw [if_neg (by omega), hln]; simp
        rw [e] at h4
        have ho4 := ho.of_mod h4.mod (by simp)
        try simp
        refine (same_spec h4.owns.reads ho4.reads (by simp; omega)).mono ?_
        rintro _ _ ⟨rfl, rfl⟩
        try simp
        refine (refNext_spec ho4.reads (by simp; omega) ?_).mono ?_
        · intro x hx
          unfold digsI at hx
          obtain ⟨d, hd, rfl⟩ := List.mem_map.1 hx
          have : d < max 1 m.toNat := by
            clear hx ho ho4 h4 e
            generalize hgl : ln = q at hd
            have hq : 0 < q → 0 < m.toNat := by omega
            clear hgl hln hmax
            induction q with
            | zero => simp [digs] at hd
            | succ q ih =>
              simp only [digs, List.mem_cons] at hd
              rcases hd with rfl | hd
              · have := Nat.mod_lt (k / m.toNat ^ q) (hq (by omega)); omega
              · exact ih hd (fun _ => hq (by omega))
          omega
        · rintro w H5 h5
          have e5 : nextL m (digsI m.toNat ln k) = digsI m.toNat ln (k + 1) := by
            by_cases hz : ln = 0
            · subst hz; rfl
            · have := next_digs m.toNat (by omega) ln k
              rwa [show ((m.toNat : Nat) : Int) = m by omega] at this
          rw [e5] at h5
          try simp
          refine ⟨⟨k + 1, w, ⟨rfl, hw⟩, by omega, h5.owns, (m3.trans h4.mod).trans h5.mod⟩, by rw [hw]; simp [intOf]; omega⟩
      · simp [hlt]
        exact m3
  by_cases hi : i < 0 ∨ cnt m l ≤ i
  · have e : orderL m l i = [] := by unfold orderL; rw [if_pos (by omega)]
    have go : ∀ H2, NewTo H1 H2 1 3 (.slice none 0 0) [] → True := fun _ _ => trivial
    have hord := order_spec (H := H1) (m := m) (l := l) (i := i) (by omega)
    rw [e] at hord
    have fin : ∀ v H2, NewTo H1 H2 1 3 v [] → ∃ a c, v = .slice a 0 c := by
      intro v H2 hn
      obtain ⟨a, n, c, rfl⟩ := hn.owns.shape
      have := hn.len
      simp [lenV] at this
      subst this
      exact ⟨a, c, rfl⟩
    by_cases i0 : i < 0
    · simp [i0]
      refine hord.mono ?_
      rintro v H2 h2
      obtain ⟨a, c, rfl⟩ := fin v H2 h2
      have := rest H2 (m1.trans h2.mod)
      simpa using this
    · have i1 : cnt m l ≤ i := by omega
      simp [i0, i1]
      refine hord.mono ?_
      rintro v H2 h2
      obtain ⟨a, c, rfl⟩ := fin v H2 h2
      have := rest H2 (m1.trans h2.mod)
      simpa using this
  · have i0 : ¬ i < 0 := by omega
    have i1 : ¬ cnt m l ≤ i := by omega
    simp [i0, i1]
    have := rest H1 m1
    simpa using this
end

end Go.Tr
