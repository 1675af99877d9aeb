/- Package world: the contracts of its small functions. Conditions: a world lies in the heap; a machine's number is one of its machines. -/
import Derived.Test.YtgjafaheglnheaaGreatDoorHsCWm
set_option maxRecDepth 20000
namespace Go.Tr
open Go.Proofs.Tryz (prog)

section
variable {gb : Nat} {K : Fix} {O : Side} {H : Heap} {x : Wm} {i : Nat}

theorem w_either {b : Bool} {p q : Int} : CallsH prog 243 #[.bool b, i64 p, i64 q] H fun v H' => v = i64 (either b p q) ∧ H' = H := by
  apply calls243
  cases b <;> simp [t243, either]

theorem w_deliver (h : W gb K O H x) (hi : i < x.M) {a : Int} : CallsH prog 232 #[ptr K.b, i64 i, i64 a] H fun _ H' => W gb K O H' (x.deliver i a) := by
  apply calls232
  simp [t232, hi, h.f, ix_all]
  refine h.st11 hi one_92 fun H h => ?_
  simp [hi, ix_all]
  refine h.st0 hi one_92 fun H h => ?_
  simp only [Wm.upd_upd] at h
  simp
  exact h

theorem w_steal (h : W gb K O H x) (hi : i < x.M) {a : Int} : CallsH prog 241 #[ptr K.b, i64 i, i64 a] H fun _ H' => W gb K O H' (x.steal i a) := by
  apply calls241
  simp [t241, hi, h.f, ix_all]
  refine h.st6 hi one_3 fun H h => ?_
  simp [hi]
  refine h.st0 hi one_92 fun H h => ?_
  simp only [Wm.upd_upd] at h
  simp [h.f]
  by_cases hp : (x.P : Int) ≤ a
  · simp [hp]
    refine h.st0 hi one_92 fun H h => ?_
    simp only [Wm.upd_upd] at h
    exact h.as (Wm.upd_congr (by simp [hp]))
  · simp [hp]
    exact h.as (Wm.upd_congr (by simp [hp]))

theorem w_take (h : W gb K O H x) (hi : i < x.M) : CallsH prog 335 #[ptr K.b, i64 i] H fun _ H' => W gb K O H' (x.take i) := by
  apply calls335
  simp [t335, hi, h.f, ix_all]
  refine h.st10 hi one_92 fun H h => ?_
  obtain ⟨rv, hrv, ho, -, -, -⟩ := h.rest hi
  obtain ⟨a, n, c, rfl⟩ := ho.shape
  have hn := ho.len
  simp only [lenV] at hn
  simp [hi, h.fm hi, hrv, hn]
  by_cases hr : 0 < (x.all i).rest.length
  · simp [hr]
    refine h.st0 hi one_92 fun H h => ?_
    simp only [Wm.upd_upd] at h
    exact h.as (Wm.upd_congr (by simp [hr]))
  · by_cases hs : (x.all i).spin = true
    · simp [hr, hs]
      refine h.st0 hi one_92 fun H h => ?_
      simp only [Wm.upd_upd] at h
      exact h.as (Wm.upd_congr (by simp [hr, hs]))
    · simp [hr, hs]
      refine h.st0 hi one_92 fun H h => ?_
      simp only [Wm.upd_upd] at h
      exact h.as (Wm.upd_congr (by simp [hr, hs]))

theorem w_settle (h : W gb K O H x) (hi : i < x.M) : CallsH prog 289 #[ptr K.b, i64 i] H fun _ H' => W gb K O H' (x.settle i) := by
  apply calls289
  obtain ⟨rv, hrv, ho, -, -, -⟩ := h.rest hi
  obtain ⟨a, n, c, rfl⟩ := ho.shape
  have hn := ho.len
  simp only [lenV] at hn
  simp [t289, hi, h.f, ix_all, h.fm hi, hrv, hn]
  by_cases hr : 0 < (x.all i).rest.length
  · simp [hr]
    refine h.st0 hi one_92 fun H h => ?_
    exact h.as (Wm.upd_congr (by simp [hr]))
  · by_cases hs : (x.all i).spin = true
    · simp [hr, hs]
      refine h.st0 hi one_92 fun H h => ?_
      exact h.as (Wm.upd_congr (by simp [hr, hs]))
    · simp [hr, hs]
      refine h.st0 hi one_92 fun H h => ?_
      exact h.as (Wm.upd_congr (by simp [hr, hs]))

theorem w_searched (h : W gb K O H x) (hi : i < x.M) {is : Bool} : CallsH prog 288 #[ptr K.b, i64 i, .bool is] H fun _ H' => W gb K O H' (x.searched i is) := by
  apply calls288
  simp [t288, hi, h.f, ix_all, h.fm hi]
  cases is
  · by_cases h2 : (x.all i).place = 2
    · simp [h2]
      refine h.st0 hi one_92 fun H h => ?_
      exact h.as (by simp [Wm.searched, h2] <;> rfl)
    by_cases h3 : (x.all i).place = 3
    · simp [h3]
      refine h.st0 hi one_92 fun H h => ?_
      exact h.as (by simp [Wm.searched, h3] <;> rfl)
    by_cases h7 : (x.all i).place = 7
    · simp [h7]
      refine h.st0 hi one_92 fun H h => ?_
      exact h.as (by simp [Wm.searched, h7] <;> rfl)
    by_cases h6 : (x.all i).place = 6
    · simp [h6]
      refine (w_steal h hi).mono fun _ H h => ?_
      exact h.as (by simp [Wm.searched, h6] <;> rfl)
    simp [h2, h3, h7, h6]
    by_cases hs : (x.all i).spin = true
    · simp [hs]
      refine (w_steal h hi).mono fun _ H h => ?_
      exact h.as (by simp [Wm.searched, h2, h3, h7, h6, hs] <;> rfl)
    · simp [hs]
      refine h.st0 hi one_92 fun H h => ?_
      exact h.as (by simp [Wm.searched, h2, h3, h7, h6, hs] <;> rfl)
  · simp
    refine (w_take h hi).mono fun _ H h => ?_
    exact h.as (by simp [Wm.searched] <;> rfl)

theorem w_hold (h : W gb K O H x) (hi : i < x.M) {p : Int} {is : Bool} : CallsH prog 281 #[ptr K.b, i64 i, i64 p, .bool is] H fun _ H' => W gb K O H' (x.hold i p is) := by
  apply calls281
  simp [t281, hi, h.f, ix_flag]
  refine h.stF hi one_4 fun H h => ?_
  cases is
  · simp; exact h
  · simp [hi, h.f, ix_all]
    refine h.st1 hi one_3 fun H h => ?_
    exact h.as (by simp [Wm.hold] <;> rfl)

theorem w_log (h : W gb K O H x) {e : Ev} (hl : x.log.length ≤ 2 ^ 34) : CallsH prog 160 #[.pointer (some ⟨K.b, 15, none⟩), e.V] H fun _ H' => W gb K O H' (x.logged e) := by
  obtain ⟨lv, hlog, shut⟩ := h.log
  unfold Wm.logged
  cases hr : e.right
  · refine (log_add_no e h.glob hr).mono ?_
    rintro _ H' ⟨-, hm⟩
    exact h.scratch hm
  · refine (log_add h.glob hlog hr hl).mono ?_
    rintro _ H' ⟨-, v', h1, h2, h3, h4⟩
    exact shut H' v' e h1 h2 h3 h4

theorem w_add (h : W gb K O H x) (hi : i < x.M) {k g v : Int} (hl : x.log.length ≤ 2 ^ 34) : CallsH prog 242 #[ptr K.b, i64 i, i64 k, i64 g, i64 v] H fun _ H' => W gb K O H' (x.add i k g v) := by
  apply calls242
  simp [t242, hi, h.f, ix_all, h.fm hi]
  refine (w_log h (e := ⟨k, g, i, (x.all i).p, v⟩) hl).mono fun _ H h => ?_
  exact h.as (by simp [Wm.add] <;> rfl)

theorem w_move (h : W gb K O H x) {g a c : Int} (ha : 0 ≤ a) : CallsH prog 159 #[tabV x.tab x.G, ptr K.mb, i64 g, u64 a, u64 c] H fun u H' => u = .bool (x.moves g a c) ∧ W gb K O H' (x.move g a c) := by
  obtain ⟨hm, shut⟩ := h.mem
  have hf := h.fits
  refine (status_move h.glob hm (by omega) (by omega) (by omega) ha).mono ?_
  rintro _ H' ⟨rfl, t⟩
  refine ⟨rfl, shut _ _ t ?_⟩
  unfold moved
  repeat' split
  all_goals simp
end

end Go.Tr
