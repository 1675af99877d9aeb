/- Package world: bare, woken, leave, rouse, exec. Conditions: a world lies in the heap; who turns has a processor; the log is not longer than 2^33. -/
import Derived.Test.YtgjafaheglnheaaGreatDoorHsCStep5
set_option maxRecDepth 20000
namespace Go.Tr
open Go.Proofs.Tryz (prog)

section
variable {gb : Nat} {K : Fix} {O : Side} {H H' : Heap} {x x' : Wm} {i : Nat}

theorem w_memAdd (h : W gb K O H x) {d : Int} : CallsH prog 240 #[ptr K.mb, i64 x.spinning, i64 d] H fun _ H' => W gb K O H' (x.spinAdd d) := by
  obtain ⟨hm, shut⟩ := h.mem
  have hf := h.fits
  refine (add_in hm (by omega) (by omega)).mono ?_
  rintro _ H ⟨rfl, t⟩
  exact shut _ _ t (by simp)
theorem w_memLoad (h : W gb K O H x) : CallsH prog 131 #[ptr K.mb, i64 x.spinning] H fun v H' => v = u64 (x.mem.get x.spinning) ∧ W gb K O H' (x.withMem x.mem.tick) := by
  obtain ⟨hm, shut⟩ := h.mem
  have hf := h.fits
  refine (load_in hm (by omega) (by omega)).mono ?_
  rintro _ H ⟨rfl, t⟩
  exact ⟨rfl, shut _ _ t (by simp)⟩
theorem w_memClaim (h : W gb K O H x) : CallsH prog 217 #[ptr K.mb, i64 x.spinning, u64 0, u64 1] H fun v H' => v = .bool (x.mem.get x.spinning == 0) ∧
    W gb K O H' (x.withMem (if x.mem.get x.spinning = 0 then x.mem.tick.put x.spinning 1 else x.mem.tick)) := by
  obtain ⟨hm, shut⟩ := h.mem
  have hf := h.fits
  by_cases e : x.mem.get x.spinning = 0
  · refine (swap_yes hm (by omega) (by omega) e).mono ?_
    rintro _ H ⟨rfl, t⟩
    exact ⟨by simp [e], by rw [if_pos e]; exact shut _ _ t (by simp)⟩
  · refine (swap_no hm (by omega) (by omega) e).mono ?_
    rintro _ H ⟨rfl, t⟩
    exact ⟨by simp [e], by rw [if_neg e]; exact shut _ _ t (by simp)⟩
theorem wake_out {b wb : Nat} {m : Mem} {k : Int} (h : MemAt H b wb m) (hk : k < 0 ∨ m.W.length ≤ k) : CallsH prog 179 #[ptr b, i64 k] H fun _ H' => H' = H := by
  apply calls179
  simp [t179]
  refine (swap_out h hk).mono ?_
  rintro _ H2 ⟨rfl, rfl⟩
  try simp
theorem w_wake (h : W gb K O H x) {k j : Int} (hj : j = IntKind.i64.wrap (x.notes + k)) : CallsH prog 179 #[ptr K.mb, i64 j] H fun _ H' => W gb K O H' (x.wake k) := by
  subst hj
  obtain ⟨hm, shut⟩ := h.mem
  unfold Wm.wake Wm.wakeMem
  by_cases hr : 0 ≤ IntKind.i64.wrap (x.notes + k) ∧ IntKind.i64.wrap (x.notes + k) < x.mem.W.length
  · refine (wake_note hm hr.1 hr.2).mono ?_
    rintro _ H ⟨-, t⟩
    rw [if_pos hr]
    exact shut _ _ t (by split <;> simp)
  · refine (wake_out hm (by omega)).mono ?_
    rintro _ H rfl
    rw [if_neg hr]; exact h
theorem w_set (h : W gb K O H x) {g a : Int} : CallsH prog 244 #[tabV x.tab x.G, ptr K.mb, i64 g, u64 a] H fun _ H' => W gb K O H' (x.put g a) := by
  obtain ⟨hm, shut⟩ := h.mem
  have hf := h.fits
  refine (status_set hm (by omega) (by omega) (by omega)).mono ?_
  rintro _ H' ⟨-, t⟩
  exact shut _ _ t (by split <;> simp)

theorem w_leave (h : W gb K O H x) (hi : i < x.M) {to k : Int} (hl : x.log.length ≤ 2 ^ 34) : CallsH prog 229 #[ptr K.b, i64 i, u64 to, i64 k] H fun _ H' => W gb K O H' (x.leave i to k) := by
  apply calls229
  simp [t229, hi, h.f, ix_all, h.fm hi]
  refine (w_move h (by decide)).mono ?_
  rintro _ H ⟨rfl, h⟩
  have hi1 : i < (x.move (x.all i).g 2 to).M := hi
  simp [h.fm hi1]
  refine (w_add h hi1 hl).mono fun _ H h => ?_
  have hi2 : i < ((x.move (x.all i).g 2 to).add i k (x.all i).g 0).M := by unfold Wm.add Wm.logged; split <;> exact hi
  try simp
  refine h.st4 hi2 one_3 fun H h => ?_
  try simp
  refine h.st2 hi2 one_3 fun H h => ?_
  try simp
  refine h.st0 hi2 one_92 fun H h => ?_
  simp only [Wm.upd_upd] at h
  exact (h).as (by simp [Wm.leave] <;> rfl)

theorem logged_M (x : Wm) (e : Ev) : (x.logged e).M = x.M := by unfold Wm.logged; split <;> rfl
theorem logged_all (x : Wm) (e : Ev) : (x.logged e).all = x.all := by unfold Wm.logged; split <;> rfl

theorem w_rouse (h : W gb K O H x) (hi : i < x.M) {g from_ k : Int} (h0 : 0 ≤ from_) (hl : x.log.length ≤ 2 ^ 34) : CallsH prog 230 #[ptr K.b, i64 i, i64 g, u64 from_, i64 k] H fun v H' =>
    v = .bool (x.rouse i g from_ k).2 ∧ W gb K O H' (x.rouse i g from_ k).1 := by
  apply calls230
  simp [t230, hi, h.f, ix_all, h.fm hi]
  refine (w_move h h0).mono ?_
  rintro _ H ⟨rfl, h⟩
  have hi1 : i < (x.move g from_ 1).M := hi
  cases hm : x.moves g from_ 1
  · simp
    simp [Wm.rouse, hm]; exact h
  · simp
    refine (w_add h hi1 hl).mono fun _ H h => ?_
    have hi2 : i < ((x.move g from_ 1).add i k g 0).M := by unfold Wm.add; rw [logged_M]; exact hi
    try simp
    refine h.st4 hi2 one_3 fun H h => ?_
    try simp
    refine h.st0 hi2 one_92 fun H h => ?_
    simp only [Wm.upd_upd] at h
    simp [Wm.rouse, hm]; exact h

/-- A step as a value. -/
abbrev St.V (s : St) : Value := .agg #[.int .u8 s.kind, .int .u8 s.act, i64 s.a, i64 s.x, i64 s.d]

theorem w_exec (h : W gb K O H x) (hi : i < x.M) {s : St} (hl : x.log.length ≤ 2 ^ 34) : CallsH prog 173 #[ptr K.b, i64 i, s.V] H fun v H' => v = .bool (x.exec i s).2 ∧ W gb K O H' (x.exec i s).1 := by
  apply calls173
  simp only [t173]
  rw [wpH_box]
  simp only [Value.cells]
  obtain ⟨h, hn, -⟩ := h.push (.cells #[.int .u8 s.kind, .int .u8 s.act, i64 s.a, i64 s.x, i64 s.d] 40 (0, 0))
  generalize H.size = b at *
  generalize H.push (.cells #[.int .u8 s.kind, .int .u8 s.act, i64 s.a, i64 s.x, i64 s.d] 40 (0, 0)) = H at *
  have hb := h.get (Side.put_self _ _ _)
  by_cases a0 : s.act = 0
  · simp [hi, h.f, ix_all, blk_ok hb, blk_cell hb, Nat.blt, a0]
    simp [Wm.exec, a0]; exact h.forget hn
  by_cases a1 : s.act = 1
  · simp [hi, h.f, ix_all, h.fm hi, blk_ok hb, blk_cell hb, Nat.blt, a1]
    refine (w_leave h hi hl).mono fun _ H h => ?_
    have hi2 : i < (x.leave i 1 3).M := by unfold Wm.leave Wm.add; simp only [Wm.upd_M]; rw [logged_M]; exact hi
    try simp
    refine h.st4 hi2 one_3 fun H h => ?_
    try simp
    refine h.st10 hi2 one_92 fun H h => ?_
    try simp
    refine h.st0 hi2 one_92 fun H h => ?_
    simp only [Wm.upd_upd] at h
    simp [Wm.exec, a1]; exact h.forget hn
  by_cases a2 : s.act = 2
  · simp [hi, h.f, ix_all, h.fm hi, blk_ok hb, blk_cell hb, Nat.blt, a2]
    refine (w_leave h hi hl).mono fun _ H h => ?_
    simp [Wm.exec, a2]; exact h.forget hn
  by_cases a3 : s.act = 3
  · simp [hi, h.f, ix_all, h.fm hi, blk_ok hb, blk_cell hb, Nat.blt, a3]
    refine (w_leave h hi hl).mono fun _ H h => ?_
    simp [Wm.exec, a3]; exact h.forget hn
  by_cases a4 : s.act = 4
  · simp [hi, h.f, ix_all, h.fm hi, blk_ok hb, blk_cell hb, Nat.blt, a4]
    refine (w_rouse h hi (by decide) hl).mono ?_
    rintro _ H ⟨rfl, h⟩
    simp [Wm.exec, a4]; exact h.forget hn
  by_cases a5 : s.act = 5
  · simp [hi, h.f, ix_all, h.fm hi, blk_ok hb, blk_cell hb, Nat.blt, a5]
    refine (w_rouse h hi (by decide) hl).mono ?_
    rintro _ H ⟨rfl, h⟩
    simp [Wm.exec, a5]; exact h.forget hn
  by_cases a6 : s.act = 6
  · simp [hi, h.f, ix_all, h.fm hi, blk_ok hb, blk_cell hb, Nat.blt, a6]
    refine h.st12 hi one_2 fun H h => ?_
    try simp
    refine h.st0 hi one_92 fun H h => ?_
    simp only [Wm.upd_upd] at h
    simp [Wm.exec, a6]; exact h.forget hn
  by_cases a7 : s.act = 7
  · by_cases x0 : s.x < 0
    · simp [hi, h.f, ix_all, h.fm hi, blk_ok hb, blk_cell hb, Nat.blt, a7, x0]
      simp [Wm.exec, a7, x0]; exact h.forget hn
    by_cases x1 : 65536 ≤ s.x
    · simp [hi, h.f, ix_all, h.fm hi, blk_ok hb, blk_cell hb, Nat.blt, a7, x0, x1]
      simp [Wm.exec, a7, x0, x1]; exact h.forget hn
    · simp [hi, h.f, ix_all, h.fm hi, blk_ok hb, blk_cell hb, Nat.blt, a7, x0, x1]
      refine h.st12 hi one_2 fun H h => ?_
      try simp
      refine h.st0 hi one_92 fun H h => ?_
      simp only [Wm.upd_upd] at h
      simp [Wm.exec, a7, x0, x1]; exact h.forget hn
  · simp [hi, h.f, ix_all, h.fm hi, blk_ok hb, blk_cell hb, Nat.blt, a0, a1, a2, a3, a4, a5, a6, a7]
    simp [Wm.exec, a0, a1, a2, a3, a4, a5, a6, a7]; exact h.forget hn

/-- What a sleeper is told by a step. -/
theorem note_step {b wb : Nat} {m : Mem} {k : Int} (h : MemAt H b wb m) (h0 : 0 ≤ k) (h1 : k < m.W.length) : CallsH prog 231 #[.agg #[i64 k, i64 9223372036854775807], ptr b, i64 0] H fun v H' =>
    v = i64 (if m.get k = 1 then 1 else 0) ∧ MemTo H H' b wb (if m.get k = 1 then m.tick.put k 0 else m.tick) := by
  apply calls231
  simp [t231, Value.cells]
  by_cases e : m.get k = 1
  · refine (swap_yes (h.push _) h0 h1 e).mono ?_
    rintro _ H2 ⟨rfl, t⟩
    simp [e]
    exact t.push
  · refine (swap_no (h.push _) h0 h1 e).mono ?_
    rintro _ H2 ⟨rfl, t⟩
    have hb := t.mod.get (get_push_new H (.cells #[i64 k, i64 9223372036854775807] 361 (0, 0))) (by have := h.lt; simp; omega)
    try simp
    rw [wpH_loadAgg_eq agg_361 (by rw [blk_rowOk hb]; simp [Nat.ble]), blk_row hb]
    try simp
    apply calls268
    simp [t268, Value.cells, e]
    exact ⟨t.now.push _, t.push.mod.trans (Mod.push _ _)⟩

theorem w_woken (h : W gb K O H x) (hi : i < x.M) : CallsH prog 174 #[ptr K.b, i64 i] H fun v H' => v = .bool (x.woken i).2 ∧ W gb K O H' (x.woken i).1 := by
  apply calls174
  have hf := h.fits
  have hw : IntKind.i64.wrap ((x.notes : Int) + i) = (x.notes : Int) + i := wrap_i64 _ (by omega) (by omega)
  simp [t174, hi, h.f, ix_all, h.fm hi, hw]
  obtain ⟨hm, shut⟩ := h.mem
  refine (note_step hm (by omega) (by omega)).mono ?_
  rintro _ H ⟨rfl, t⟩
  have h := shut _ _ t (by split <;> simp)
  by_cases e : x.mem.get (x.notes + i) = 1
  · simp [e] at h
    simp [e, h.fm hi]
    by_cases hn : (x.all i).next < 0
    · simp [hn]
      refine (w_deliver h hi).mono fun _ H h => ?_
      simp [Wm.woken, e, hn]; exact h
    · simp [hn, h.fm hi]
      refine h.st1 hi one_3 fun H h => ?_
      try simp
      refine h.st3 hi one_3 fun H h => ?_
      try simp
      refine h.st7 hi one_4 fun H h => ?_
      try simp
      refine h.st0 hi one_92 fun H h => ?_
      simp only [Wm.upd_upd] at h
      simp [Wm.woken, e, hn]; exact h
  · simp [e] at h
    simp [e]
    simp [Wm.woken, e]; exact h

theorem w_bare (h : W gb K O H x) (hi : i < x.M) (hl : x.log.length ≤ 2 ^ 34) (hp : (x.all i).place = 1 → 0 ≤ (x.all i).p ∧ (x.all i).p < x.P) : CallsH prog 177 #[ptr K.b, i64 i] H fun _ H' => W gb K O H' (x.bare i) := by
  apply calls177
  by_cases p1 : (x.all i).place = 1
  · obtain ⟨h0, h1⟩ := hp p1
    have hr : (x.all i).p.toNat < x.P := by omega
    simp [t177, hi, h.f, ix_all, h.fm hi, p1, ix_turns h0 h1, h.ft hr]
    refine h.stT hr one_3 fun H h => ?_
    try simp
    refine h.st0 hi one_92 fun H h => ?_
    simp [hi, h.f, h.fm hi, ix_turns h0 h1, h.ft hr, dry_rem]
    by_cases hm : (IntKind.i64.wrap (x.turns (x.all i).p.toNat + 1)).tmod 61 = 0
    · simp [hm]
      refine (w_deliver h hi).mono fun _ H h => ?_
      exact (h).as (by simp [Wm.bare, p1, hm] <;> rfl)
    · simp [hm]
      exact (h).as (by simp [Wm.bare, p1, hm] <;> rfl)
  by_cases p5 : (x.all i).place = 5
  · simp [t177, hi, h.f, ix_all, h.fm hi, p5]
    refine (w_memAdd h).mono fun _ H h => ?_
    try simp
    refine h.st7 hi one_4 fun H h => ?_
    try simp
    refine (w_steal h hi).mono fun _ H h => ?_
    exact (h).as (by simp [Wm.bare, p5] <;> rfl)
  by_cases p12 : (x.all i).place = 12
  · simp [t177, hi, h.f, ix_all, h.fm hi, p12]
    refine (w_memAdd h).mono fun _ H h => ?_
    try simp
    refine h.st7 hi one_4 fun H h => ?_
    try simp
    refine h.st0 hi one_92 fun H h => ?_
    simp only [Wm.upd_upd] at h
    exact (h).as (by simp [Wm.bare, p12] <;> rfl)
  by_cases p8 : (x.all i).place = 8
  · simp [t177, hi, h.f, ix_all, h.fm hi, p8]
    refine (w_memAdd h).mono fun _ H h => ?_
    try simp
    refine h.st7 hi one_4 fun H h => ?_
    try simp
    refine h.st6 hi one_3 fun H h => ?_
    try simp
    refine h.st0 hi one_92 fun H h => ?_
    simp only [Wm.upd_upd] at h
    exact (h).as (by simp [Wm.bare, p8] <;> rfl)
  by_cases p19 : (x.all i).place = 19
  · simp [t177, hi, h.f, ix_all, h.fm hi, p19]
    refine (w_memAdd h).mono fun _ H h => ?_
    try simp
    refine h.st7 hi one_4 fun H h => ?_
    try simp
    refine h.st0 hi one_92 fun H h => ?_
    simp only [Wm.upd_upd] at h
    exact (h).as (by simp [Wm.bare, p19] <;> rfl)
  by_cases p20 : (x.all i).place = 20
  · simp [t177, hi, h.f, ix_all, h.fm hi, p20]
    refine (w_move h (by decide)).mono ?_
    rintro _ H ⟨rfl, h⟩
    have hi1 : i < (x.move (x.all i).got 1 2).M := hi
    have hma : (x.move (x.all i).got 1 2).all = x.all := rfl
    simp [h.fm hi1, hma]
    refine (w_add h hi1 hl).mono fun _ H h => ?_
    have hi2 : i < ((x.move (x.all i).got 1 2).add i 2 (x.all i).got 0).M := by unfold Wm.add; rw [logged_M]; exact hi
    have ha : ((x.move (x.all i).got 1 2).add i 2 (x.all i).got 0).all = x.all := by unfold Wm.add; rw [logged_all]; rfl
    simp [h.fm hi2, ha]
    refine h.st2 hi2 one_3 fun H h => ?_
    try simp
    refine h.st4 hi2 one_3 fun H h => ?_
    try simp
    refine h.st0 hi2 one_92 fun H h => ?_
    simp only [Wm.upd_upd] at h
    have e : x.bare i = ((x.move (x.all i).got 1 2).add i 2 (x.all i).got 0).upd i fun m => { m with g := (x.all i).got, got := -1, place := 0 } := by
      simp only [Wm.bare, p20]
      simp [Wm.upd, ha]
    rw [e]
    simp [ha] at h ⊢
    exact h
  by_cases p21 : (x.all i).place = 21
  · simp [t177, hi, h.f, ix_all, h.fm hi, p21]
    refine wpH_callW body_131 ?_
    refine (w_memLoad h).mono ?_
    rintro _ H ⟨rfl, h⟩
    refine ⟨held_cons_load one_92 (by simp [h.fm hi]) (by simp [h.fm hi]) (held_nil _ _), ?_⟩
    try simp
    refine w_either.mono ?_
    rintro _ _ ⟨rfl, rfl⟩
    try simp
    refine h.st0 hi one_92 fun H h => ?_
    exact (h).as (by simp [Wm.bare, p21] <;> rfl)
  by_cases p22 : (x.all i).place = 22
  · simp [t177, hi, h.f, ix_all, h.fm hi, p22]
    refine wpH_callW body_217 ?_
    refine (w_memClaim h).mono ?_
    rintro _ H ⟨rfl, h⟩
    refine ⟨held_cons_load one_92 (by simp [h.fm hi]) (by simp [h.fm hi]) (held_nil _ _), ?_⟩
    try simp
    refine w_either.mono ?_
    rintro _ _ ⟨rfl, rfl⟩
    try simp
    refine h.st0 hi one_92 fun H h => ?_
    exact (h).as (by simp [Wm.bare, p22] <;> rfl)
  by_cases p24 : (x.all i).place = 24
  · simp [t177, hi, h.f, ix_all, h.fm hi, p24]
    refine (w_wake h rfl).mono fun _ H h => ?_
    have hi1 : i < (x.wake (x.all i).target).M := hi
    simp [h.fm hi1]
    refine h.st5 hi1 one_3 fun H h => ?_
    try simp
    refine h.st0 hi1 one_92 fun H h => ?_
    simp only [Wm.upd_upd] at h
    exact (h).as (by simp [Wm.bare, p24] <;> rfl)
  by_cases p26 : (x.all i).place = 26
  · simp [t177, hi, h.f, ix_all, h.fm hi, p26]
    refine (w_set h).mono fun _ H h => ?_
    have hi1 : i < (x.put (x.all i).got 1).M := hi
    simp [h.fm hi1]
    refine (w_add h hi1 hl).mono fun _ H h => ?_
    have hi2 : i < ((x.put (x.all i).got 1).add i 1 (x.all i).got 0).M := by unfold Wm.add; rw [logged_M]; exact hi
    try simp
    refine h.st10 hi2 one_92 fun H h => ?_
    try simp
    refine h.st0 hi2 one_92 fun H h => ?_
    simp only [Wm.upd_upd] at h
    exact (h).as (by simp [Wm.bare, p26] <;> rfl)
  · simp [t177, hi, h.f, ix_all, h.fm hi, p1, p5, p12, p8, p19, p20, p21, p22, p24, p26]
    exact (h).as (by simp [Wm.bare, p1, p5, p12, p8, p19, p20, p21, p22, p24, p26] <;> rfl)
end

end Go.Tr
