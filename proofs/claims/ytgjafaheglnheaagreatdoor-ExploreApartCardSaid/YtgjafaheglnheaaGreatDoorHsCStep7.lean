/- Package world: locked, pick. Conditions: a world lies in the heap; what a machine does with its lock held is as told. -/
import Derived.Test.YtgjafaheglnheaaGreatDoorHsCStep6
set_option maxRecDepth 20000
namespace Go.Tr
open Go.Proofs.Tryz (prog)

section
variable {gb : Nat} {K : Fix} {O : Side} {H H' : Heap} {x x' : Wm} {i : Nat}

/-- A world in which a section is begun. -/
def Wm.begun (x : Wm) (i : Nat) (lock : Int) : Wm := if (x.all i).inn then x else (x.upd i fun m => { m with ln := 2 * lock, ls := 2 * lock + 1, stage := 0, ticket := 0, times := 0, inn := true }).flagged i false
theorem begun_M (x : Wm) (i : Nat) (lock : Int) : (x.begun i lock).M = x.M := by unfold Wm.begun; split <;> rfl
theorem section_M (x : Wm) (i : Nat) : (x.sec i).1.M = x.M := by
  unfold Wm.sec
  dsimp only
  repeat' split
  all_goals first | rfl | exact (same_act _ _ _).M

theorem w_locked (h : W gb K O H x) (hi : i < x.M) {lock : Int} (hk : 0 ≤ lock ∧ lock ≤ x.P + 1)
    (hln : (x.all i).inn = true → 0 ≤ (x.all i).ln ∧ (x.all i).ln < x.mem.W.length ∧ 0 ≤ (x.all i).ls ∧ (x.all i).ls < x.mem.W.length)
    (ha : ((x.begun i lock).all i).stage = 2 → ActOk gb K (x.begun i lock) i ((x.begun i lock).all i).times) :
    CallsH prog 176 #[ptr K.b, i64 i, i64 lock] H fun _ H' => W gb K O H' (x.locked i lock) := by
  apply calls176
  have hf := h.fits
  have hw1 : IntKind.i64.wrap (2 * lock) = 2 * lock := wrap_i64 _ (by omega) (by omega)
  have hw2 : IntKind.i64.wrap (2 * lock + 1) = 2 * lock + 1 := wrap_i64 _ (by omega) (by omega)
  simp only [t176]
  rw [wpH_box, wpH_box]
  simp only [Value.cells]
  obtain ⟨h, hn, -⟩ := h.push (.cells #[ptr K.b] 57 (0, 0))
  generalize H.size = b3 at *
  generalize H.push (.cells #[ptr K.b] 57 (0, 0)) = H1 at *
  obtain ⟨h, hn4, -⟩ := h.push (.cells #[i64 i] 3 (0, 0))
  have hne : H1.size ≠ b3 := fun e => by rw [e] at hn4; simp at hn4
  generalize H1.size = b4 at *
  generalize H1.push (.cells #[i64 i] 3 (0, 0)) = H at *
  have g3 : ((O.put b3 (.cells #[ptr K.b] 57 (0, 0))).put b4 (.cells #[i64 i] 3 (0, 0))) b3 = some (.cells #[ptr K.b] 57 (0, 0)) := by rw [Side.put_ne (Ne.symm hne)]; simp
  have g4 : ((O.put b3 (.cells #[ptr K.b] 57 (0, 0))).put b4 (.cells #[i64 i] 3 (0, 0))) b4 = some (.cells #[i64 i] 3 (0, 0)) := by simp
  have un : ∀ {H x}, W gb K ((O.put b3 (.cells #[ptr K.b] 57 (0, 0))).put b4 (.cells #[i64 i] 3 (0, 0))) H x → W gb K O H x := fun h => (h.forget hn4).forget hn
  generalize ((O.put b3 (.cells #[ptr K.b] 57 (0, 0))).put b4 (.cells #[i64 i] 3 (0, 0))) = O' at *
  clear hn hn4
  have e3 := h.get g3
  have e4 := h.get g4
  -- behind the beginning
  have rest : ∀ H, W gb K O' H (x.begun i lock) → wpH prog (fun vs H' => W gb K O H' (x.locked i lock))
      (.pure (.nilChk (.pointer (some ⟨K.ab, i * 18, none⟩))) fun v38 => .pure (.fieldA 98 v38 13) fun v39 => .look (.load 57 (ptr b3)) fun v40 => .pure (.nilChk v40) fun v41 => .pure (.fieldA 193 v41 1) fun v42 => .look (.load 63 v42) fun v43 =>
        .pure (.mkF (.func 237) #[] #[ptr b3, ptr b4]) fun v44 => .op [] (.callv (.func (.func 236) #[] #[]) #[v39, v43, v44]) fun v45 => .ite v45 (.pure (.nilChk (.pointer (some ⟨K.ab, i * 18, none⟩))) fun v47 => .pure (.fieldA 98 v47 8) fun v48 =>
        .op [] (.store 4 v48 (.bool false)) fun _ => .look (.load 57 (ptr b3)) fun v49 => .look (.load 3 (ptr b4)) fun v50 => .op [] (.callv (.func (.func 239) #[] #[]) #[v49, v50]) fun _ => .ret []) (.ret [])) (fun _ _ _ => False) H := by
    intro H h
    have e3 := h.get g3
    have hi1 : i < (x.begun i lock).M := by rw [begun_M]; exact hi
    have hsec : 0 ≤ ((x.begun i lock).all i).ln ∧ ((x.begun i lock).all i).ln < (x.begun i lock).mem.W.length ∧ 0 ≤ ((x.begun i lock).all i).ls ∧ ((x.begun i lock).all i).ls < (x.begun i lock).mem.W.length := by
      unfold Wm.begun
      split
      · rename_i e; exact hln e
      · simp; omega
    simp [blk_ok e3, blk_cell e3, Nat.blt, h.f]
    refine (w_section h hi1 g3 g4 ⟨hsec.1, hsec.2.1⟩ ⟨hsec.2.2.1, hsec.2.2.2⟩ ha).mono ?_
    rintro _ H ⟨rfl, h⟩
    have hi2 : i < ((x.begun i lock).sec i).1.M := by rw [section_M]; exact hi1
    have e : x.locked i lock = if ((x.begun i lock).sec i).2 then (((x.begun i lock).sec i).1.upd i fun m => { m with inn := false }).next i else ((x.begun i lock).sec i).1 := rfl
    cases hs : ((x.begun i lock).sec i).2
    · simp
      rw [e, hs]
      exact un h
    · simp
      refine h.st8 hi2 one_4 fun H h => ?_
      have e3 := h.get g3
      have e4 := h.get g4
      simp [blk_ok e3, blk_cell e3, blk_ok e4, blk_cell e4, Nat.blt]
      refine (w_next h hi2).mono fun _ H h => ?_
      try simp
      rw [e, hs]
      exact un h
  cases hin : (x.all i).inn
  · simp [blk_ok e3, blk_cell e3, blk_ok e4, blk_cell e4, Nat.blt, hi, h.f, h.fm hi, ix_all, hin, hw1, hw2]
    refine section_begin.mono ?_
    rintro _ H ⟨rfl, m⟩
    have h := h.scratch m
    try simp
    refine h.stS hi fun H h => ?_
    try simp
    refine h.st8 hi one_4 fun H h => ?_
    have e3 := h.get g3
    have e4 := h.get g4
    simp [blk_ok e3, blk_cell e3, blk_ok e4, blk_cell e4, Nat.blt, hi, h.f, ix_flag]
    refine h.stF hi one_4 fun H h => ?_
    simp only [Wm.upd_upd] at h
    have := rest H (by unfold Wm.begun; rw [hin]; exact h)
    simpa using this
  · simp [blk_ok e3, blk_cell e3, blk_ok e4, blk_cell e4, Nat.blt, hi, h.f, h.fm hi, ix_all, hin]
    have := rest H (by unfold Wm.begun; rw [hin]; exact h)
    simpa [blk_ok e3, blk_cell e3, h.f, Nat.blt] using this

theorem lock_range (x : Wm) (i : Nat) (h0 : 0 ≤ x.lock i) (hP : 1 ≤ x.P) : x.lock i ≤ x.P + 1 := by
  unfold Wm.lock lockOf ringOf at *
  repeat' split
  all_goals try omega
  rename_i h1 h2
  have := Int.tmod_lt_of_pos ((x.all i).p + (x.all i).i.tmod x.P) (show (0 : Int) < x.P by omega)
  omega

theorem w_pick (h : W gb K O H x) {s : St} (hl : x.log.length ≤ 2 ^ 34)
    (ok : ∀ i : Nat, s.a = i → i < x.M → ((x.all i).place = 1 → 0 ≤ (x.all i).p ∧ (x.all i).p < x.P) ∧
      ((x.all i).inn = true → 0 ≤ (x.all i).ln ∧ (x.all i).ln < x.mem.W.length ∧ 0 ≤ (x.all i).ls ∧ (x.all i).ls < x.mem.W.length) ∧
      (0 ≤ x.lock i → ((x.begun i (x.lock i)).all i).stage = 2 → ActOk gb K (x.begun i (x.lock i)) i ((x.begun i (x.lock i)).all i).times)) :
    CallsH prog 109 #[ptr K.b, s.V] H fun v H' => v = .bool (x.pick s).2 ∧ W gb K O H' (x.pick s).1 := by
  apply calls109
  have hf := h.fits
  simp only [t109]
  rw [wpH_box]
  simp only [Value.cells]
  obtain ⟨h, hn, -⟩ := h.push (.cells #[.int .u8 s.kind, .int .u8 s.act, i64 s.a, i64 s.x, i64 s.d] 40 (0, 0))
  generalize H.size = b at *
  generalize H.push (.cells #[.int .u8 s.kind, .int .u8 s.act, i64 s.a, i64 s.x, i64 s.d] 40 (0, 0)) = H at *
  have hb := h.get (Side.put_self _ _ _)
  have hrow : rowD H b 0 5 = #[.int .u8 s.kind, .int .u8 s.act, i64 s.a, i64 s.x, i64 s.d] := by rw [blk_row hb]; rfl
  have hrok : rowOk H b 0 5 = true := by rw [blk_rowOk hb]; rfl
  by_cases a0 : s.a < 0
  · simp [blk_ok hb, blk_cell hb, Nat.blt, a0]
    simp [Wm.pick, a0]; exact h.forget hn
  by_cases a1 : (x.M : Int) ≤ s.a
  · simp [blk_ok hb, blk_cell hb, Nat.blt, a0, h.f, a1]
    simp [Wm.pick, a0, a1]; exact h.forget hn
  obtain ⟨i, ha⟩ : ∃ i : Nat, s.a = i := ⟨s.a.toNat, by omega⟩
  have hi : i < x.M := by omega
  obtain ⟨ok1, ok2, ok3⟩ := ok i ha hi
  have hi' : ¬ (x.M ≤ i) := by omega
  have hi0 : ¬ ((i : Int) < 0) := by omega
  by_cases q0 : (x.all i).place = 0
  · simp [blk_ok hb, blk_cell hb, Nat.blt, ha, h.f, hi, hi', hi0, ix_all, h.fm hi, q0, hrow, hrok]
    have this : CallsH prog 173 #[ptr K.b, i64 i, .agg #[.int .u8 s.kind, .int .u8 s.act, i64 s.a, i64 s.x, i64 s.d]] H _ := w_exec h hi (s := s) hl
    rw [ha] at this
    refine this.mono ?_
    rintro _ H ⟨rfl, h⟩
    simp [Wm.pick, ha, hi', hi0, q0]; exact h.forget hn
  by_cases q16 : (x.all i).place = 16
  · simp [blk_ok hb, blk_cell hb, Nat.blt, ha, h.f, hi, hi', hi0, ix_all, h.fm hi, q16]
    refine (w_woken h hi).mono ?_
    rintro _ H ⟨rfl, h⟩
    simp [Wm.pick, ha, hi', hi0, q16]; exact h.forget hn
  obtain ⟨rv, -, -, ⟨r1, r2⟩, -, -⟩ := h.rest hi
  simp [blk_ok hb, blk_cell hb, Nat.blt, ha, h.f, hi, hi', hi0, ix_all, h.fm hi, q0, q16, r1, r2]
  refine (mach_lock (pl := (x.all i).place) (p := (x.all i).p) (i := (x.all i).i) (n := x.P) h.glob rfl rfl rfl rfl (by omega)).mono ?_
  rintro _ H ⟨rfl, m⟩
  have h := h.scratch m
  have hb := h.get (Side.put_self _ _ _)
  have el : lockOf (x.all i).place (x.all i).p (x.all i).i x.P = x.lock i := rfl
  rw [el]
  by_cases k0 : 0 ≤ x.lock i
  · simp [blk_ok hb, blk_cell hb, Nat.blt, ha, k0]
    refine (w_locked h hi ⟨k0, lock_range x i k0 hf.1⟩ ok2 (ok3 k0)).mono fun _ H h => ?_
    simp [Wm.pick, ha, hi', hi0, q0, q16, k0]; exact h.forget hn
  · simp [blk_ok hb, blk_cell hb, Nat.blt, ha, k0]
    refine (w_bare h hi hl ok1).mono fun _ H h => ?_
    simp [Wm.pick, ha, hi', hi0, q0, q16, k0]; exact h.forget hn
end

end Go.Tr
