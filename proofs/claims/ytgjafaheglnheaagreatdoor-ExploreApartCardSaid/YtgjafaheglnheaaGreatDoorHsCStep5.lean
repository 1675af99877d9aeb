/- Package world: where a machine goes on behind its section. Conditions: a world lies in the heap; the machine is one of it. -/
import Derived.Test.YtgjafaheglnheaaGreatDoorHsCStep4
set_option maxRecDepth 20000
namespace Go.Tr
open Go.Proofs.Tryz (prog)

section
variable {gb : Nat} {K : Fix} {O : Side} {H H' : Heap} {x x' : Wm} {i : Nat}

theorem w_next (h : W gb K O H x) (hi : i < x.M) : CallsH prog 239 #[ptr K.b, i64 i] H fun _ H' => W gb K O H' (x.next i) := by
  apply calls239
  have ff := h.ff hi
  by_cases p2 : (x.all i).place = 2
  · simp [t239, hi, h.f, ix_all, ix_flag, ff, h.fm hi, p2]
    refine (w_searched h hi).mono fun _ H h => ?_
    simp [Wm.next, p2]; exact h
  by_cases p3 : (x.all i).place = 3
  · simp [t239, hi, h.f, ix_all, ix_flag, ff, h.fm hi, p3]
    refine (w_searched h hi).mono fun _ H h => ?_
    simp [Wm.next, p3]; exact h
  by_cases p4 : (x.all i).place = 4
  · simp [t239, hi, h.f, ix_all, ix_flag, ff, h.fm hi, p4]
    refine (w_searched h hi).mono fun _ H h => ?_
    simp [Wm.next, p4]; exact h
  by_cases p6 : (x.all i).place = 6
  · simp [t239, hi, h.f, ix_all, ix_flag, ff, h.fm hi, p6]
    refine (w_searched h hi).mono fun _ H h => ?_
    simp [Wm.next, p6]; exact h
  by_cases p7 : (x.all i).place = 7
  · simp [t239, hi, h.f, ix_all, ix_flag, ff, h.fm hi, p7]
    refine (w_searched h hi).mono fun _ H h => ?_
    simp [Wm.next, p7]; exact h
  by_cases p9 : (x.all i).place = 9
  · simp [t239, hi, h.f, ix_all, ix_flag, ff, h.fm hi, p9]
    refine h.st6 hi one_3 fun H h => ?_
    simp [hi, h.f, h.fm hi]
    refine w_either.mono ?_
    rintro _ _ ⟨rfl, rfl⟩
    try simp
    refine w_either.mono ?_
    rintro _ _ ⟨rfl, rfl⟩
    try simp
    refine h.st0 hi one_92 fun H h => ?_
    simp only [Wm.upd_upd] at h
    simp [Wm.next, p9]; exact h
  by_cases p10 : (x.all i).place = 10
  · simp [t239, hi, h.f, ix_all, ix_flag, ff, h.fm hi, p10]
    refine w_either.mono ?_
    rintro _ _ ⟨rfl, rfl⟩
    try simp
    refine h.st0 hi one_92 fun H h => ?_
    simp [Wm.next, p10]; exact h
  by_cases p11 : (x.all i).place = 11
  · simp [t239, hi, h.f, ix_all, ix_flag, ff, h.fm hi, p11]
    refine w_either.mono ?_
    rintro _ _ ⟨rfl, rfl⟩
    try simp
    refine h.st0 hi one_92 fun H h => ?_
    simp [Wm.next, p11]; exact h
  by_cases p13 : (x.all i).place = 13
  · simp [t239, hi, h.f, ix_all, ix_flag, ff, h.fm hi, p13]
    refine wpH_callW body_243 ?_
    refine w_either.mono ?_
    rintro _ _ ⟨rfl, rfl⟩
    refine ⟨held_cons_load one_4 (by simp [h.fm hi]) (by simp [h.fm hi]) (held_nil _ _), ?_⟩
    try simp
    refine w_either.mono ?_
    rintro _ _ ⟨rfl, rfl⟩
    try simp
    refine h.st0 hi one_92 fun H h => ?_
    simp [Wm.next, p13]; exact h
  by_cases p14 : (x.all i).place = 14
  · simp [t239, hi, h.f, ix_all, ix_flag, ff, h.fm hi, p14]
    refine w_either.mono ?_
    rintro _ _ ⟨rfl, rfl⟩
    try simp
    refine h.st0 hi one_92 fun H h => ?_
    simp [Wm.next, p14]; exact h
  by_cases p15 : (x.all i).place = 15
  · simp [t239, hi, h.f, ix_all, ix_flag, ff, h.fm hi, p15]
    refine h.st0 hi one_92 fun H h => ?_
    by_cases hf : x.flag i = true
    · simp [hf]
      refine (w_deliver h hi).mono fun _ H h => ?_
      simp only [Wm.deliver, Wm.upd_upd] at h
      simp [Wm.next, p15, hf, Wm.deliver]; exact h
    · simp [hf]
      simp [Wm.next, p15, hf]; exact h
  by_cases p17 : (x.all i).place = 17
  · simp [t239, hi, h.f, ix_all, ix_flag, ff, h.fm hi, p17]
    refine (w_settle h hi).mono fun _ H h => ?_
    simp [Wm.next, p17]; exact h
  by_cases p18 : (x.all i).place = 18
  · simp [t239, hi, h.f, ix_all, ix_flag, ff, h.fm hi, p18]
    refine (w_settle h hi).mono fun _ H h => ?_
    simp [Wm.next, p18]; exact h
  by_cases p28 : (x.all i).place = 28
  · simp [t239, hi, h.f, ix_all, ix_flag, ff, h.fm hi, p28]
    refine h.st10 hi one_92 fun H h => ?_
    try simp
    refine (w_settle h hi).mono fun _ H h => ?_
    simp [Wm.next, p28]; exact h
  by_cases p27 : (x.all i).place = 27
  · simp [t239, hi, h.f, ix_all, ix_flag, ff, h.fm hi, p27]
    refine h.st0 hi one_92 fun H h => ?_
    simp [Wm.next, p27]; exact h
  by_cases p23 : (x.all i).place = 23
  · simp [t239, hi, h.f, ix_all, ix_flag, ff, h.fm hi, p23]
    refine w_either.mono ?_
    rintro _ _ ⟨rfl, rfl⟩
    try simp
    refine h.st0 hi one_92 fun H h => ?_
    simp [Wm.next, p23]; exact h
  by_cases p25 : (x.all i).place = 25
  · simp [t239, hi, h.f, ix_all, ix_flag, ff, h.fm hi, p25]
    refine w_either.mono ?_
    rintro _ _ ⟨rfl, rfl⟩
    try simp
    refine h.st0 hi one_92 fun H h => ?_
    simp [Wm.next, p25]; exact h
  by_cases p29 : (x.all i).place = 29 ∨ (x.all i).place = 30
  · have go : ∀ H, W gb K O H (x.go i (either (decide (0 ≤ (x.all i).g)) 0 1)) → ∀ (b : Bool), b = (decide ((x.all i).g < 0) && x.flag i) →
        (if b then CallsH prog 232 #[ptr K.b, i64 i, i64 1] H fun _ H' => W gb K O H' (x.next i) else W gb K O H (x.next i)) := by
      rintro H h b rfl
      have e : x.next i = if (x.all i).g < 0 ∧ x.flag i = true then (x.go i (either (decide (0 ≤ (x.all i).g)) 0 1)).deliver i 1 else x.go i (either (decide (0 ≤ (x.all i).g)) 0 1) := by
        rcases p29 with p | p <;> simp [Wm.next, p]
      by_cases hc : (x.all i).g < 0 ∧ x.flag i = true
      · rw [if_pos (by simp [hc])]
        refine (w_deliver h hi).mono fun _ H h => ?_
        rw [e, if_pos hc]; exact h
      · rw [if_neg (by simpa using hc)]
        rw [e, if_neg hc]; exact h
    have main : ∀ k, (x.all i).place = k → (k = 29 ∨ k = 30) → wpH prog (fun vs H' => W gb K O H' (x.next i)) (t239 (ptr K.b) (i64 i)) (fun _ _ _ => False) H := by
      intro k hk hk2
      rcases hk2 with rfl | rfl
      all_goals
        simp [t239, hi, h.f, ix_all, ix_flag, ff, h.fm hi, hk]
        refine w_either.mono ?_
        rintro _ _ ⟨rfl, rfl⟩
        try simp
        refine h.st0 hi one_92 fun H h => ?_
        simp [h.fm hi]
        have := go H h
        by_cases hg : (x.all i).g < 0
        · have := this (x.flag i) (by simp [hg])
          simp [hg]
          cases hf : x.flag i
          · simp [hf] at this ⊢; exact this
          · simp [hf] at this ⊢; exact this.mono fun _ H h => h
        · have := this false (by simp [hg])
          simp [hg]
          simpa using this
    exact main _ rfl p29
  · have n1 : (x.all i).place ≠ 29 := fun e => p29 (.inl e)
    have n2 : (x.all i).place ≠ 30 := fun e => p29 (.inr e)
    simp [t239, hi, h.f, ix_all, ix_flag, ff, h.fm hi, p2, p3, p4, p6, p7, p9, p10, p11, p13, p14, p15, p17, p18, p28, p27, p23, p25, n1, n2]
    simp [Wm.next, p2, p3, p4, p6, p7, p9, p10, p11, p13, p14, p15, p17, p18, p28, p27, p23, p25, n1, n2]; exact h
end

end Go.Tr
