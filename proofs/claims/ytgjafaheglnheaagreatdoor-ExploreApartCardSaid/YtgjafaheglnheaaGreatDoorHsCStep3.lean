/- Package world: what a machine does with its lock held, place by place. Conditions: a world lies in the heap; the numbers that a place reads are in range. -/
import Derived.Test.YtgjafaheglnheaaGreatDoorHsCStep2
set_option maxRecDepth 20000
namespace Go.Tr
open Go.Proofs.Tryz (prog)

section
variable {gb : Nat} {K : Fix} {O : Side} {H H' : Heap} {x x' : Wm} {i : Nat} {t : Int}

/-- What is asked of what a machine does with its lock held. -/
def ActOk (gb : Nat) (K : Fix) (x : Wm) (i : Nat) (t : Int) : Prop :=
  ∀ O H, W gb K O H x → CallsH prog 238 #[ptr K.b, i64 i, i64 t] H fun v H' => v = .bool (x.act i t).2 ∧ W gb K O H' (x.act i t).1

theorem act_one (hi : i < x.M) (hp : (x.all i).place = 2) (hl : x.queue.length ≤ 2 ^ 34) : ActOk gb K x i t := by
  intro O H h
  apply calls238
  simp [t238, hi, h.f, ix_all, h.fm hi, hp]
  refine (w_queue_one h hl).mono ?_
  rintro _ H ⟨rfl, h⟩
  try simp
  refine (w_one h hi).mono fun _ H h => ?_
  simp [Wm.act, hp]; exact h

theorem act_local (hi : i < x.M) (hp : (x.all i).place = 3) (h0 : 0 ≤ (x.all i).p) (h1 : (x.all i).p < x.P) : ActOk gb K x i t := by
  intro O H h
  apply calls238
  have hr : (x.all i).p.toNat < x.P := by omega
  simp [t238, hi, h.f, ix_all, h.fm hi, hp, ix_rings h0 h1, h.fr hr]
  refine (w_ring_get h hr).mono ?_
  rintro _ H ⟨rfl, h⟩
  try simp
  refine (w_one h hi).mono fun _ H h => ?_
  simp [Wm.act, hp]; exact h

theorem most_len (l : List Int) (n : Int) : (l.take (most l n)).length ≤ l.length := by rw [List.length_take]; omega

theorem act_global (hi : i < x.M) (hp : (x.all i).place = 4) (hl : x.queue.length ≤ 2 ^ 34) : ActOk gb K x i t := by
  intro O H h
  apply calls238
  simp [t238, hi, h.f, ix_all, h.fm hi, hp]
  refine (w_queue_take h hl).mono ?_
  rintro v H g
  try simp
  refine (w_found g.w hi g.owns g.beside (by simp; omega)).mono fun _ H h => ?_
  simp [Wm.act, hp]; exact g.un h

theorem act_steal (hi : i < x.M) (hp : (x.all i).place = 6) (h0 : 0 ≤ (x.all i).p) (h1 : (x.all i).p < x.P) (h2 : 0 ≤ (x.all i).i) (h3 : (x.all i).i ≤ x.P) : ActOk gb K x i t := by
  intro O H h
  apply calls238
  have hf := h.fits
  have hw : IntKind.i64.wrap ((x.all i).p + (x.all i).i) = (x.all i).p + (x.all i).i := wrap_i64 _ (by omega) (by omega)
  have hP : (x.P : Int) ≠ 0 := by omega
  have k0 : 0 ≤ ((x.all i).p + (x.all i).i).tmod x.P := Int.tmod_nonneg _ (by omega)
  have k1 : ((x.all i).p + (x.all i).i).tmod x.P < x.P := Int.tmod_lt_of_pos _ (by omega)
  have hr : (((x.all i).p + (x.all i).i).tmod x.P).toNat < x.P := by omega
  simp [t238, hi, h.f, ix_all, h.fm hi, hp, hw, dry_rem _ _ _ _ _ _ hP, ix_rings k0 k1, h.fr hr]
  refine (w_ring_steal h hr).mono ?_
  rintro v H g
  have hlen := (h.ring hr).1.room
  try simp
  refine (w_found g.w hi g.owns g.beside (by unfold Rg.steal; split <;> simp <;> omega)).mono fun _ H h => ?_
  simp [Wm.act, hp, hw]; exact g.un h

theorem act_look (hi : i < x.M) (hp : (x.all i).place = 9) (h0 : 0 ≤ (x.all i).i) (h1 : (x.all i).i < x.P) : ActOk gb K x i t := by
  intro O H h
  apply calls238
  have hr : (x.all i).i.toNat < x.P := by omega
  simp [t238, hi, h.f, ix_all, h.fm hi, hp, ix_rings h0 h1, h.fr hr]
  refine wpH_callW body_278 ?_
  refine (w_ring_len h hr).mono ?_
  rintro _ _ ⟨rfl, rfl⟩
  refine ⟨held_cons_load one_115 (by simp [h.f]) (by simp [h.f]) (held_nil _ _), ?_⟩
  simp [ix_flag, hi]
  refine h.stF hi one_4 fun H h => ?_
  simp [Wm.act, hp]; exact h

theorem act_lookGlobal (hi : i < x.M) (hp : (x.all i).place = 10) : ActOk gb K x i t := by
  intro O H h
  apply calls238
  simp [t238, hi, h.f, ix_all, h.fm hi, hp]
  refine wpH_callW body_279 ?_
  refine (w_queue_len h).mono ?_
  rintro _ _ ⟨rfl, rfl⟩
  refine ⟨held_cons_load one_115 (by simp [h.f]) (by simp [h.f]) (held_nil _ _), ?_⟩
  simp [ix_flag, hi]
  refine h.stF hi one_4 fun H h => ?_
  simp [Wm.act, hp]; exact h

theorem act_putOver (hi : i < x.M) (hp : (x.all i).place = 18) (hl : x.queue.length ≤ 2 ^ 34) (hr : (x.all i).rest.length ≤ 2 ^ 34) : ActOk gb K x i t := by
  intro O H h
  apply calls238
  obtain ⟨rv, hrv, ho, -, -, -⟩ := h.rest hi
  simp [t238, hi, h.f, ix_all, h.fm hi, hp, hrv]
  refine (w_queue_put h ho.reads hl hr).mono fun _ H h => ?_
  try simp
  have h0 : W gb K (O.row H (.slice none 0 0)) H (x.withQueue (x.queue ++ (x.all i).rest)) := by rw [Side.row_nil _ _ rfl]; exact h
  refine h0.st9 hi (l := []) (.inl ⟨rfl, rfl⟩) (by simp) fun H h => ?_
  simp [Wm.act, hp]; exact h

theorem act_putOne (hi : i < x.M) (hp : (x.all i).place = 27) (hl : x.queue.length ≤ 2 ^ 34) : ActOk gb K x i t := by
  intro O H h
  apply calls238
  simp [t238, hi, h.f, ix_all, h.fm hi, hp]
  obtain ⟨h1, hn, -⟩ := h.push (.cells #[.int .i64 (x.all i).got] 3 (0, 0))
  refine wpH_buildSliceW (bs_33_1 _) (held_cons_load one_188 (by simp [h1.f]) (by simp [h1.f]) (held_nil _ _)) ?_
  try simp
  refine (w_queue_put h1 (l := [(x.all i).got]) (Owns.reads (e := 3) (.inr ⟨H.size, 1, 1, [i64 (x.all i).got], rfl, by simp, by simp, by omega, get_push_new _ _, by simp⟩)) hl (by simp)).mono fun _ H2 h2 => ?_
  have h := h2.forget hn
  try simp
  refine h.st4 hi one_3 fun H h => ?_
  simp [Wm.act, hp]; exact h

theorem act_putRest (hi : i < x.M) (hp : (x.all i).place = 17) (h0 : 0 ≤ (x.all i).p) (h1 : (x.all i).p < x.P) (hl : (x.all i).rest.length ≤ 2 ^ 34) : ActOk gb K x i t := by
  intro O H h
  apply calls238
  have hr : (x.all i).p.toNat < x.P := by omega
  obtain ⟨rv, hrv, ho, -, hne, -⟩ := h.rest hi
  simp [t238, hi, h.f, ix_all, h.fm hi, hp, ix_rings h0 h1, h.fr hr, hrv]
  refine (w_ring_putAll h hr ho (hne _ hr) hl).mono ?_
  rintro v H g
  try simp
  refine g.w.st9 hi g.owns g.fresh fun H h => ?_
  simp [Wm.act, hp]; exact h

theorem act_putNext (hi : i < x.M) (hp : (x.all i).place = 28) (h0 : 0 ≤ (x.all i).p) (h1 : (x.all i).p < x.P) : ActOk gb K x i t := by
  intro O H h
  apply calls238
  have hr : (x.all i).p.toNat < x.P := by omega
  simp [t238, hi, h.f, ix_all, h.fm hi, hp, ix_rings h0 h1, h.fr hr]
  refine (w_ring_ready h hr).mono ?_
  rintro v H g
  try simp
  refine g.w.st9 hi g.owns g.fresh fun H h => ?_
  try simp
  refine h.st4 hi one_3 fun H h => ?_
  simp only [Wm.upd_upd] at h
  simp [Wm.act, hp]; exact h

theorem act_none (hi : i < x.M) (hp : ∀ k ∈ [2, 3, 4, 6, 7, 9, 10, 11, 13, 15, 18, 27, 17, 28, 14, 25, 23, 29, 30], (x.all i).place ≠ k) : ActOk gb K x i t := by
  intro O H h
  apply calls238
  simp at hp
  simp [t238, hi, h.f, ix_all, h.fm hi, hp]
  simp [Wm.act, hp]; exact h
end

end Go.Tr
