/- Package world: what is told of a world from outside: Machine, Status, Events, Config. Conditions: a world lies in the heap. -/
import Derived.Test.YtgjafaheglnheaaGreatDoorHsCStep7
import Derived.Test.YtgjafaheglnheaaGreatDoorHsCNew
set_option maxRecDepth 20000
namespace Go.Tr
open Go.Proofs.Tryz (prog)

section
variable {gb : Nat} {K : Fix} {O : Side} {H H' : Heap} {x x' : Wm} {i : Nat} {b wb : Nat} {m : Mem}

theorem MemAt.reads (h : MemAt H b wb m) {c : Nat} : Reads H 1 (.slice (some ⟨wb, 0, none⟩) m.W.length c) (m.W.map u64) := by
  obtain ⟨l, h2, h3, h4⟩ := h.row
  refine .inr ⟨wb, 0, m.W.length, c, rfl, by simp, by rw [blk_rowOk h2]; exact Nat.ble_eq_true_of_le (by simpa using h3), ?_⟩
  rw [blk_row h2]
  apply List.ext_getElem
  · simp; omega
  · intro k k1 k2
    simp at k1 k2
    have := h4 k k2
    simp [List.getD_eq_getElem?_getD, k2, show k < l.length by omega] at this
    simp [this]

theorem mem_copy (h : MemAt H b wb m) (hn : 0 < m.W.length) (hl : m.W.length ≤ 2 ^ 30) : CallsH prog 114 #[ptr b] H fun v H' =>
    ∃ b' wb', v = ptr b' ∧ MemAt H' b' wb' m ∧ Mod H H' [] ∧ H.size ≤ b' ∧ H.size ≤ wb' := by
  apply calls114
  obtain ⟨c, hdr⟩ := h.hdr
  simp [t114, blk_ok hdr, blk_cell hdr, Nat.blt]
  refine wpH_callW body_185 ?_
  refine (clone_u64s (xs := m.W) h.reads (by simp [lenV]; omega)).mono ?_
  rintro v H2 hnew
  have hdr2 := hnew.mod.get hdr (by simp)
  refine ⟨held_cons_load one_3 (by rw [blk_ok hdr2]; rfl) (by rw [blk_cell hdr2]; rfl) (held_nil _ _), ?_⟩
  rcases hnew.owns with ⟨_, hh⟩ | ⟨wb', n, c', l, rfl, h1, h2, h3, h4, h5⟩
  · simp at hh; rw [hh] at hn; simp at hn
  have hfr := hnew.fresh wb' rfl
  have hwl := blk_lt h4
  simp at h1 h2 h5
  simp [Value.cells]
  refine ⟨wb', ⟨⟨c', ?_⟩, ⟨l, get_push_old h4, by omega, fun k hk => ?_⟩, by omega⟩, hnew.mod.trans (Mod.push _ _), hnew.mod.size, hfr⟩
  · rw [Blk, get_push_new, h1]
  · have h6 : (l.take n)[k]? = (m.W.map u64)[k]? := by rw [h5]
    rw [List.getElem?_take, if_pos (by omega)] at h6
    simp [hk] at h6
    simp [List.getD_eq_getElem?_getD, h6, hk]

namespace Wm
/-- A goroutine's status. -/
def stat (x : Wm) (g : Int) : Int := if 0 ≤ g ∧ g < x.G then x.mem.get (x.tab + g) else 0
end Wm

theorem w_status (h : W gb K O H x) {g : Int} : CallsH prog 58 #[ptr K.b, i64 g] H fun v H' => v = u64 (x.stat g) ∧ W gb K O H' x := by
  apply calls58
  have hf := h.fits
  obtain ⟨hm, -⟩ := h.mem
  simp [t58, h.f]
  refine wpH_callW body_114 ?_
  refine (mem_copy hm (by omega) (by omega)).mono ?_
  rintro _ H2 ⟨b', wb', rfl, hm2, m2, l1, l2⟩
  have h2 := h.scratch m2
  refine ⟨held_cons_loadAgg agg_186 (by simp [h2.f]) (by simp [h2.f]) (held_nil _ _), ?_⟩
  try simp
  refine (status_of hm2 (by omega) (by omega) (by omega)).mono ?_
  rintro _ H3 ⟨rfl, t⟩
  try simp
  exact ⟨by unfold Wm.stat; rfl, h.scratch (m2.behind t.mod (by intro k hk hlt; simp at hk; omega))⟩

theorem cs_one (mc : Mc) (rv : Value) (h : oneV rv = true) : ∀ v ∈ (mc.cs rv).toArray.toList, oneV v = true := by
  intro v hv
  simp [Mc.cs] at hv
  rcases hv with rfl | rfl | rfl | rfl | rfl | rfl | rfl | rfl | rfl | rfl | rfl | rfl | rfl | rfl | rfl | rfl | rfl | rfl <;> first | simp; done | exact h

theorem mach_copy {mc : Mc} {rv : Value} (ho : Owns H 1 3 rv (mc.rest.map i64)) (hl : mc.rest.length ≤ 2 ^ 34) : CallsH prog 130 #[.agg (mc.cs rv).toArray] H fun v H' =>
    ∃ rv', v = .agg (mc.cs rv').toArray ∧ oneV rv' = true ∧ Mod H H' [] := by
  apply calls130
  simp only [t130]
  rw [wpH_box]
  refine alloc_any zero_98 fun zc hzc => ?_
  have hzl : zc.size = 18 := by rw [hzc]; rfl
  clear hzc
  simp only [Value.cells]
  have hb0 := get_push_old (x := .cells zc 98 (0, 0)) (get_push_new H (.cells (mc.cs rv).toArray 98 (0, 0)))
  have hb1 := get_push_new (H.push (.cells (mc.cs rv).toArray 98 (0, 0))) (.cells zc 98 (0, 0))
  have m0 : Mod H ((H.push (.cells (mc.cs rv).toArray 98 (0, 0))).push (.cells zc 98 (0, 0))) [] := (Mod.push _ _).trans (Mod.push _ _)
  have hne : H.size < (H.push (.cells (mc.cs rv).toArray 98 (0, 0))).size := by simp
  generalize (H.push (.cells (mc.cs rv).toArray 98 (0, 0))).size = b1 at *
  generalize (H.push (.cells (mc.cs rv).toArray 98 (0, 0))).push (.cells zc 98 (0, 0)) = H1 at *
  have h9 : cellD H1 H.size 9 = rv := by rw [blk_cell hb0]; simp [Mc.cs]
  have ho1 := ho.of_mod m0 (by simp)
  obtain ⟨a, n, c, rfl⟩ := ho.shape
  have hn := ho.len
  simp only [lenV] at hn
  simp [blk_ok hb0, h9, Mc.cs, Nat.blt]
  refine (clone_ints ho1.reads (by simp [lenV]; omega)).mono ?_
  rintro u H2 hnew
  have hb02 := hnew.mod.get hb0 (by simp)
  have hb12 := hnew.mod.get hb1 (by simp)
  have hu : oneV u = true := by obtain ⟨a, n, c, rfl⟩ := hnew.owns.shape; simp
  simp [blk_ok hb02, blk_free hb02, Mc.cs, Nat.blt, hu]
  have hb03 := get_setH_self (o := 9) (v := u) hb02
  have hb13 : (setH H2 H.size 9 u)[b1]? = _ := (get_setH_ne (by omega)).trans hb12
  have e : (mc.cs (.slice a n c)).toArray.setIfInBounds 9 u = (mc.cs u).toArray := by simp [Mc.cs]
  rw [e] at hb03
  rw [la_98 (by rw [blk_rowOk hb03]; rfl), blk_row hb03]
  have e2 : (mc.cs u).toArray.extract 0 (0 + 18) = (mc.cs u).toArray := by simp [Mc.cs]
  rw [e2]
  refine store_resv agg_98 hb13 hzl rfl (cs_one _ _ hu) ?_
  refine ⟨u, rfl, hu, ?_⟩
  refine Mod.behind (S' := [H.size, b1]) (m0.trans hnew.mod) ((Mod.setH _ _ _ (by simp)).trans (Mod.setRowH _ _ (by simp))) ?_
  intro k hk hlt
  simp at hk; omega

theorem w_machine (h : W gb K O H x) {k : Int} (hl : ∀ i, i < x.M → (x.all i).rest.length ≤ 2 ^ 34) : CallsH prog 66 #[ptr K.b, i64 k] H fun v H' => W gb K O H' x ∧
    ∃ rv, v = .agg ((if 0 ≤ k ∧ k < x.M then x.all k.toNat else Mc.fresh).cs rv).toArray := by
  apply calls66
  simp only [t66]
  refine alloc_any zero_98 fun zc hzc => ?_
  have hzl : zc.size = 18 := by rw [hzc]; rfl
  clear hzc
  have hb1 := get_push_new H (.cells zc 98 (0, 0))
  have m0 : Mod H (H.push (.cells zc 98 (0, 0))) [] := Mod.push _ _
  have h1 := h.scratch m0
  have fin : ∀ {H2 : Heap} {mc : Mc} {rv : Value}, Mod (H.push (.cells zc 98 (0, 0))) H2 [] → oneV rv = true → mc = (if 0 ≤ k ∧ k < x.M then x.all k.toNat else Mc.fresh) →
      wpH prog (fun vs H' => W gb K O H' x ∧ ∃ rv, retVal vs = .agg ((if 0 ≤ k ∧ k < x.M then x.all k.toNat else Mc.fresh).cs rv).toArray)
        (.op [] (.store 98 (ptr H.size) (.agg (mc.cs rv).toArray)) fun _ => .look (.resv 98 (ptr H.size)) fun r0 => .ret [r0]) (fun _ _ _ => False) H2 := by
    intro H2 mc rv m hone e
    refine store_resv agg_98 (m.get hb1 (by simp)) hzl rfl (cs_one _ _ hone) ?_
    refine ⟨h.scratch (Mod.behind (S' := [H.size]) (m0.trans m) (Mod.setRowH _ _ (by simp)) (by intro j hj hlt; simp at hj; omega)), rv, by rw [← e]; rfl⟩
  by_cases k0 : k < 0
  · simp [k0]
    refine mach_fresh.mono ?_
    rintro _ H2 ⟨rfl, m2⟩
    exact fin m2 (by simp) (by rw [if_neg (by omega)])
  by_cases k1 : (x.M : Int) ≤ k
  · simp [k0, h1.f, k1]
    refine mach_fresh.mono ?_
    rintro _ H2 ⟨rfl, m2⟩
    exact fin m2 (by simp) (by rw [if_neg (by omega)])
  obtain ⟨i, rfl⟩ : ∃ i : Nat, k = i := ⟨k.toNat, by omega⟩
  have hi : i < x.M := by omega
  obtain ⟨rv, -, ho, ⟨r1, r2⟩, -, -⟩ := h1.rest hi
  have hi' : ¬ x.M ≤ i := by omega
  simp [h1.f, hi', hi, ix_all, r1, r2]
  refine (mach_copy ho (hl i hi)).mono ?_
  rintro _ H2 ⟨rv', rfl, hone, m2⟩
  have := fin (mc := x.all i) m2 hone (by simp [hi])
  simpa [hi] using this

theorem w_events (h : W gb K O H x) (hl : x.log.length ≤ 2 ^ 34) : CallsH prog 42 #[ptr K.b] H fun v H' => W gb K (O.row H' v) H' x ∧ Owns H' 5 43 v (x.log.flatMap Ev.cs) ∧
    (∀ c, blkOf v = some c → c < H'.size ∧ O c = none ∧ gb ≤ c) ∧ lenV v = x.log.length := by
  obtain ⟨lv, hlog, -⟩ := h.log
  apply calls42
  simp [t42]
  apply calls113
  obtain ⟨a, n, c, rfl⟩ := hlog.owns.shape
  have hfl := flat_len x.log
  have hn : n = x.log.length := by
    rcases hlog.owns with ⟨hh, h2⟩ | ⟨b, n', c', l, hh, h1, _⟩
    · cases hh; rw [h2] at hfl; simp at hfl; omega
    · cases hh; rw [hfl] at h1; omega
  have hcut := dry_cut_lo (P := prog) (n := n) (c := c) (a := a) (k := .i64) (t := 60) (i := 0) sl_60 (by omega) (by omega)
  have e0 : (if c = 0 then a else a.map (·.add 0)) = a := by
    split
    · rfl
    · rcases hlog.owns with ⟨hh, h2⟩ | ⟨b, n', c', l, hh, h1, _⟩
      · cases hh; rfl
      · cases hh; simp [add_none]
  simp [e0] at hcut
  have hng : ¬ (n : Int) < 0 := by omega
  simp [t113, hlog.ok, hlog.cell, hng, hcut]
  refine (clone_events hlog.owns.reads ?_ (by simp [lenV]; omega)).mono ?_
  · intro u hu
    obtain ⟨e, -, he⟩ := List.mem_flatMap.1 hu
    simp [Ev.cs] at he
    rcases he with rfl | rfl | rfl | rfl | rfl <;> simp
  · rintro v H2 hnew
    try simp
    refine ⟨(h.mod hnew.mod).row v hnew.fresh, hnew.owns, fun c hc => ⟨hnew.owns.lt hc, h.fresh (hnew.fresh c hc)⟩, ?_⟩
    have := hnew.len
    rw [hfl] at this; omega

/-- All blocks that were there are as they were. -/
theorem W.mod_of {H0 : Heap} (h : W gb K (fun k => H0[k]?) H x) : Mod H0 H [] := by
  refine ⟨?_, fun k hk _ => ?_⟩
  · rcases Nat.lt_or_ge H.size H0.size with hlt | hge
    · have hk : (fun k => H0[k]?) H.size = some H0[H.size] := by simp [hlt]
      have := h.lt hk
      omega
    · exact hge
  · have hk' : (fun k => H0[k]?) k = some H0[k] := by simp [hk]
    rw [h.get hk']; simp [hk]
end

/-- The chapter's example of layer 20 lives, wherever the tables lie. -/
def Lives20 : Prop := ∀ (gb : Nat) (H : Heap), Glob gb H → CallsH prog 39 #[] H fun v H' => v = .bool true ∧ Mod H H' []
end Go.Tr
