/- Package world: found, one; rings and the queue of a world. Conditions: a world lies in the heap; rows are not longer than 2^34. -/
import Derived.Test.YtgjafaheglnheaaGreatDoorHsCStep1
set_option maxRecDepth 20000
namespace Go.Tr
open Go.Proofs.Tryz (prog)

section
variable {gb : Nat} {K : Fix} {O : Side} {H H' : Heap} {x x' : Wm} {i : Nat} {Q : List Value → Heap → Prop} {R : Option Nat → List Value → Heap → Prop}

/-- A row beside the world stays. -/
theorem W.keep (h : W gb K O H x) (h' : W gb K O H' x') {v : Value} {cs : List Value} {sz : Nat} {e : TypeId} (ho : Owns H sz e v cs) (hv : ∀ c, blkOf v = some c → ∃ o, O c = some o) : Owns H' sz e v cs := by
  rcases ho with ho | ⟨b, n, c, l, rfl, h1, h2, h3, h4, h5⟩
  · exact .inl ho
  · obtain ⟨o, hb⟩ := hv b rfl
    refine .inr ⟨b, n, c, l, rfl, h1, h2, h3, ?_, h5⟩
    have e1 := h.get hb
    have e2 := h'.get hb
    have h4' : H[b]? = _ := h4
    rw [e1] at h4'
    rw [Blk, e2]; exact h4'

/-- A row made anew becomes a machine's. -/
theorem W.st9 {H0 : Heap} {v : Value} (h : W gb K (O.row H0 v) H x) (hi : i < x.M) {l : List Int} (ho : Owns H 1 3 v (l.map i64)) (hc : ∀ c, blkOf v = some c → c < H0.size ∧ O c = none ∧ gb ≤ c) {kk : Value → T}
    (hK : ∀ H', W gb K O H' (x.upd i fun m => { m with rest := l }) → wpH prog Q (kk undef) R H') : wpH prog Q (.op [] (.store 33 (.pointer (some ⟨K.ab, i * 18 + 9, none⟩)) v) kk) R H := by
  obtain ⟨h1, h2, h3⟩ := W.adopt (O := O) h hi ho (fun c hcv => by
      obtain ⟨k1, k2, k3⟩ := hc c hcv
      refine ⟨?_, k2, k3⟩
      unfold Side.row
      rw [if_pos hcv]
      exact ⟨H0[c], by simp [k1]⟩) (fun k o hk => by
      unfold Side.row
      rw [if_neg fun e => by rw [(hc k e).2.1] at hk; cases hk]; exact hk)
  obtain ⟨a, n, c, rfl⟩ := ho.shape
  rw [wpH_store_eq one_33 (by simp) h1 h2]
  exact hK _ h3

theorem W.fresh (h : W gb K O H x) {c : Nat} (hc : H.size ≤ c) : O c = none ∧ gb ≤ c := ⟨h.unused hc, Nat.le_trans h.glob.le hc⟩

theorem w_found (h : W gb K O H x) (hi : i < x.M) {v : Value} {l : List Int} (ho : Owns H 1 3 v (l.map i64)) (hv : ∀ c, blkOf v = some c → ∃ o, O c = some o) (hl : l.length ≤ 2 ^ 34) :
    CallsH prog 275 #[ptr K.b, i64 i, v] H fun _ H' => W gb K O H' (x.found i l) := by
  apply calls275
  obtain ⟨a, n, c, rfl⟩ := ho.shape
  have hn := ho.len
  simp only [lenV] at hn
  cases l with
  | nil =>
    simp at hn
    subst hn
    simp [t275, hi, h.f, ix_all, ix_flag]
    refine h.stF hi one_4 fun H h => ?_
    simp
    exact h
  | cons g r =>
    have hp : 0 < n := by simp at hn; omega
    have hpi : (0 : Int) < (n : Int) := by omega
    have hcut := dry_cut_lo (P := prog) (n := n) (c := c) (a := a) (k := .i64) (i := 1) sl_33 (by omega) (by omega)
    simp [t275, hi, h.f, ix_all, ix_flag, hp]
    refine h.stF hi one_4 fun H1 h1 => ?_
    have ho1 := h.keep h1 ho hv
    obtain ⟨_, hcell⟩ := reads_cell ho1.reads rfl
    obtain ⟨b, o, rfl, hok, hd⟩ := hcell 0 (by simp)
    have hrest := ho1.rest (k := 1) (by simp)
    simp at hok hd hcut hrest
    have hnr : r.length = n - 1 := by simp at hn; omega
    rw [hnr] at hrest
    simp [hp, dry_indexA sl_33 (Int.le_refl 0) hpi, hok, hd, hcut]
    refine wpH_callW body_134 ?_
    refine (clone_ints hrest (by simp [lenV, hn] at hl ⊢; omega)).mono ?_
    rintro u H2 hnew
    have h2 := (h1.mod hnew.mod).row u hnew.fresh
    obtain ⟨bo, hbo⟩ := hv b rfl
    have e1 := h1.get hbo
    have e2 := (h1.mod hnew.mod).w.get hbo
    have eb : H2[b]? = H1[b]? := e2.trans e1.symm
    refine ⟨held_cons_load one_3 (by unfold cellOk at hok ⊢; rw [eb]; exact hok) (by unfold cellD at hd ⊢; rw [eb]; exact hd) (held_nil _ _), ?_⟩
    simp
    refine h2.st4 hi one_3 fun H3 h3 => ?_
    simp
    refine h3.st9 hi (h2.keep h3 hnew.owns fun c hc => ?_) (fun c hc => ⟨hnew.owns.lt hc, h1.fresh (hnew.fresh c hc)⟩) fun H4 h4 => ?_
    · unfold Side.row; rw [if_pos hc]; have := hnew.owns.lt hc; exact ⟨H2[c], by simp [this]⟩
    simp only [Wm.upd_upd] at h4
    exact (h4).as (by simp [Wm.found] <;> rfl)

theorem w_one (h : W gb K O H x) (hi : i < x.M) {g : Int} {is : Bool} : CallsH prog 273 #[ptr K.b, i64 i, i64 g, .bool is] H fun _ H' => W gb K O H' (x.one i g is) := by
  apply calls273
  cases is
  · simp [t273]
    refine (w_found h hi (l := []) (.inl ⟨rfl, rfl⟩) (by intro c hc; cases hc) (by simp)).mono fun _ H h => ?_
    exact (h).as (by simp [Wm.one] <;> rfl)
  · simp only [t273, wpH_ite, if_true]
    refine wpH_buildSlice (bs_33_1 _) ?_
    obtain ⟨h1, hn, -⟩ := h.push (.cells #[.int .i64 g] 3 (0, 0))
    simp
    refine (w_found h1 hi (l := [g]) (.inr ⟨H.size, 1, 1, [i64 g], rfl, by simp, by simp, by omega, get_push_new _ _, by simp⟩) ?_ (by simp)).mono fun _ H2 h2 => ?_
    · intro c hc; simp at hc; subst hc; exact ⟨_, Side.put_self _ _ _⟩
    · have := h2.forget hn
      simpa [Wm.one] using this

theorem w_ring_get (h : W gb K O H x) {p : Nat} (hp : p < x.P) : CallsH prog 274 #[ptr (K.rp p)] H fun v H' => v = .tuple #[i64 (x.rings p).get.2.1, .bool (x.rings p).get.2.2] ∧ W gb K O H' (x.withRing p (x.rings p).get.1) := by
  obtain ⟨hr, shut⟩ := h.ring hp
  refine (ring_get hr).mono ?_
  rintro _ H' ⟨rfl, t⟩
  exact ⟨rfl, (shut _ _ t).w⟩
theorem w_ring_len (h : W gb K O H x) {p : Nat} (hp : p < x.P) : CallsH prog 278 #[ptr (K.rp p)] H fun v H' => v = i64 (x.rings p).list.length ∧ H' = H := by
  obtain ⟨hr, shut⟩ := h.ring hp
  refine (ring_len hr).mono ?_
  rintro _ H' ⟨rfl, rfl⟩
  refine ⟨?_, rfl⟩
  unfold Rg.list
  cases (x.rings p).is <;> simp
/-- A row handed back, put beside the world. -/
structure Given (gb : Nat) (K : Fix) (O : Side) (v : Value) (xs : List Int) (H' : Heap) (x' : Wm) : Prop where
  w : W gb K (O.row H' v) H' x'
  owns : Owns H' 1 3 v (xs.map i64)
  fresh : ∀ c, blkOf v = some c → c < H'.size ∧ O c = none ∧ gb ≤ c
theorem Given.beside {v : Value} {xs : List Int} (h : Given gb K O v xs H' x') : ∀ c, blkOf v = some c → ∃ o, (O.row H' v) c = some o := fun c hc => by
  have := (h.fresh c hc).1
  unfold Side.row; rw [if_pos hc]; exact ⟨H'[c], by simp [this]⟩
theorem Given.un {v : Value} {xs : List Int} {H2 : Heap} {x2 : Wm} (h : Given gb K O v xs H' x') (k : W gb K (O.row H' v) H2 x2) : W gb K O H2 x2 := k.unrow fun c hc => (h.fresh c hc).2.1

theorem w_ring_steal (h : W gb K O H x) {p : Nat} (hp : p < x.P) : CallsH prog 277 #[ptr (K.rp p)] H fun v H' => Given gb K O v (x.rings p).steal.2 H' (x.withRing p (x.rings p).steal.1) := by
  obtain ⟨hr, shut⟩ := h.ring hp
  refine (ring_steal hr).mono ?_
  rintro v H' ⟨g, t⟩
  exact ⟨(shut _ _ t).row v g.fresh, g.owns, fun c hc => ⟨g.owns.lt hc, h.fresh (g.fresh c hc)⟩⟩
theorem w_ring_ready (h : W gb K O H x) {p : Nat} (hp : p < x.P) {g : Int} : CallsH prog 284 #[ptr (K.rp p), i64 g] H fun v H' => Given gb K O v ((x.rings p).ready g).2 H' (x.withRing p ((x.rings p).ready g).1) := by
  obtain ⟨hr, shut⟩ := h.ring hp
  refine (ring_ready hr).mono ?_
  rintro v H' ⟨g, t⟩
  exact ⟨(shut _ _ t).row v g.fresh, g.owns, fun c hc => ⟨g.owns.lt hc, h.fresh (g.fresh c hc)⟩⟩
theorem w_ring_putAll (h : W gb K O H x) {p : Nat} (hp : p < x.P) {v : Value} {l : List Int} (ho : Owns H 1 3 v (l.map i64)) (hv : blkOf v ≠ some (K.rp p)) (hl : l.length ≤ 2 ^ 34) :
    CallsH prog 283 #[ptr (K.rp p), v] H fun v H' => Given gb K O v ((x.rings p).putAll l).2 H' (x.withRing p ((x.rings p).putAll l).1) := by
  obtain ⟨hr, shut⟩ := h.ring hp
  refine (ring_putAll hr ho hv hl).mono ?_
  rintro v H' ⟨g, t⟩
  exact ⟨(shut _ _ t).row v g.fresh, g.owns, fun c hc => ⟨g.owns.lt hc, h.fresh (g.fresh c hc)⟩⟩

theorem w_queue_one (h : W gb K O H x) (hl : x.queue.length ≤ 2 ^ 34) : CallsH prog 272 #[ptr K.qb] H fun v H' => v = .tuple #[i64 (x.queue.headD 0), .bool (!x.queue.isEmpty)] ∧ W gb K O H' (x.withQueue x.queue.tail) := by
  obtain ⟨qv, hq, shut⟩ := h.queue
  refine (queue_one hq hl).mono ?_
  rintro _ H' ⟨rfl, v', t⟩
  exact ⟨rfl, (shut _ _ _ t).1⟩
theorem w_queue_len (h : W gb K O H x) : CallsH prog 279 #[ptr K.qb] H fun v H' => v = i64 x.queue.length ∧ H' = H := by
  obtain ⟨qv, hq, shut⟩ := h.queue
  exact queue_len hq
theorem w_queue_take (h : W gb K O H x) (hl : x.queue.length ≤ 2 ^ 34) : CallsH prog 276 #[ptr K.qb] H fun v H' =>
    Given gb K O v (x.queue.take (most x.queue (shareOf x.queue x.P))) H' (x.withQueue (x.queue.drop (most x.queue (shareOf x.queue x.P)))) := by
  obtain ⟨qv, hq, shut⟩ := h.queue
  refine (queue_take hq (by have := h.fits; omega) hl).mono ?_
  rintro v H' ⟨v', t, ho, hf⟩
  exact ⟨(shut _ _ _ t).2 v hf, ho, fun c hc => ⟨ho.lt hc, h.fresh (hf c hc).1⟩⟩
theorem w_queue_put (h : W gb K O H x) {v : Value} {l : List Int} (hr : Reads H 1 v (l.map i64)) (h1 : x.queue.length ≤ 2 ^ 34) (h2 : l.length ≤ 2 ^ 34) :
    CallsH prog 161 #[ptr K.qb, v] H fun _ H' => W gb K O H' (x.withQueue (x.queue ++ l)) := by
  obtain ⟨qv, hq, shut⟩ := h.queue
  refine (queue_put hq hr h1 h2).mono ?_
  rintro _ H' ⟨v', t⟩
  exact (shut _ _ _ t).1
end

end Go.Tr
