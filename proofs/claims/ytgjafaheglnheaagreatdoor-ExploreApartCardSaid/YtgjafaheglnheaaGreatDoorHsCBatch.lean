/- Packages batch and global: the contracts of their functions, over a row that lies in a cell of the heap. Conditions: the row lies there, and is at most 2^34 long. -/
import Derived.Test.YtgjafaheglnheaaGreatDoorHsCSlices
set_option maxRecDepth 20000
namespace Go.Tr
open Go.Proofs (Tryz.prog)

/-- A cell that holds a row of its own. -/
structure ListAt (H : Heap) (b o : Nat) (v : Value) (xs : List Int) : Prop where
  ok : cellOk H b o = true
  free : cellFree H b o = true
  cell : cellD H b o = v
  owns : Owns H 1 3 v (xs.map i64)
  ne : blkOf v ≠ some b

structure ListTo (H H' : Heap) (b o : Nat) (v v' : Value) (xs' : List Int) : Prop where
  now : ListAt H' b o v' xs'
  hdr : H'[b]? = (setH H b o v')[b]?
  mod : Mod H H' (b :: (blkOf v).toList)
  blk : blkOf v' = none ∨ blkOf v' = blkOf v ∨ ∃ nb, blkOf v' = some nb ∧ H.size ≤ nb

theorem cellOk_lt {H : Heap} {b o : Nat} (h : cellOk H b o = true) : b < H.size := by
  unfold cellOk at h
  split at h
  · rename_i hb; exact blk_lt hb
  · cases h

theorem Owns.len {H : Heap} {e : TypeId} {v : Value} {xs : List Int} {f : Int → Value} (h : Owns H 1 e v (xs.map f)) : lenV v = xs.length := by
  rcases h with ⟨rfl, h⟩ | ⟨b, n, c, l, rfl, h, _⟩
  · have : xs = [] := by simpa using h
    subst this; rfl
  · simp at h; simp [lenV, h]

theorem Owns.shape {H : Heap} {sz : Nat} {e : TypeId} {v : Value} {cs : List Value} (h : Owns H sz e v cs) : ∃ a n c, v = .slice a n c := by
  rcases h with ⟨rfl, _⟩ | ⟨b, n, c, l, rfl, _⟩ <;> exact ⟨_, _, _, rfl⟩

theorem Owns.cut {H : Heap} {xs : List Int} {a : Option Addr} {n c : Nat} (h : Owns H 1 3 (.slice a n c) (xs.map i64)) {k : Nat} (hk : k ≤ xs.length) :
    n = xs.length ∧ n ≤ c ∧ Reads H 1 (.slice a k c) ((xs.take k).map i64) := by
  rcases h with ⟨h, hx⟩ | ⟨b, n', c', l, h, h1, h2, h3, h4, h5⟩
  · cases h
    have : xs = [] := by simpa using hx
    subst this
    have : k = 0 := by simpa using hk
    subst this
    exact ⟨rfl, by omega, .inl ⟨rfl, rfl⟩⟩
  · cases h
    simp at h1 h2 h5
    refine ⟨h1.symm, h3, .inr ⟨b, 0, k, c, rfl, by simp; omega, ?_, ?_⟩⟩
    · rw [blk_rowOk h4]; exact Nat.ble_eq_true_of_le (by simp; omega)
    · rw [blk_row h4]
      have : xs.map i64 = l.take xs.length := by rw [h1, h5]
      rw [List.map_take, this]
      simp [List.take_take, Nat.min_eq_left hk]

namespace ListAt
variable {H H' : Heap} {b o : Nat} {v : Value} {xs : List Int}
theorem lt (h : ListAt H b o v xs) : b < H.size := cellOk_lt h.ok
theorem of_mod (h : ListAt H b o v xs) {S : List Nat} (m : Mod H H' S) (hb : b ∉ S) (hv : ∀ c, blkOf v = some c → c ∉ S) : ListAt H' b o v xs := by
  have e := m.old b h.lt hb
  exact ⟨by unfold cellOk; rw [e]; exact h.ok, by unfold cellFree; rw [e]; exact h.free, by unfold cellD; rw [e]; exact h.cell, h.owns.of_mod m hv, h.ne⟩
/-- Another row in the cell. -/
theorem set (h : ListAt H b o v xs) {v' : Value} {xs' : List Int} (hne : blkOf v' ≠ some b) (ho : Owns H 1 3 v' (xs'.map i64)) : ListAt (setH H b o v') b o v' xs' :=
  ⟨by simpa using h.ok, by simpa using h.free, by simp [h.ok], ho.of_mod (Mod.setH b o v' (S := [b]) (by simp)) (by intro c hc; simp; intro e; exact hne (by rw [hc, e])), hne⟩
end ListAt

theorem setH_congr {H H1 : Heap} {b o : Nat} {v : Value} (h : H1[b]? = H[b]?) : (setH H1 b o v)[b]? = (setH H b o v)[b]? := by
  simp [setH, Array.getElem?_modify, h]

section
variable {H : Heap} {b o : Nat} {v : Value} {xs : List Int}

theorem batch_len (h : ListAt H b o v xs) : CallsH Tryz.prog 323 #[.pointer (some ⟨b, o, none⟩)] H fun u H' => u = i64 xs.length ∧ H' = H := by
  apply calls323
  obtain ⟨a, n, c, rfl⟩ := h.owns.shape
  have hl := h.owns.len
  simp only [lenV] at hl
  subst hl
  simp [t323, h.ok, h.cell]

theorem batch_put {x : Value} {ys : List Int} (h : ListAt H b o v xs) (hr : Reads H 1 x (ys.map i64)) (hlx : xs.length ≤ 2 ^ 34) (hly : ys.length ≤ 2 ^ 34) :
    CallsH Tryz.prog 219 #[.pointer (some ⟨b, o, none⟩), x] H fun _ H' => ∃ v', ListTo H H' b o v v' (xs ++ ys) := by
  apply calls219
  have hxl : lenV x = ys.length := by
    rcases hr with ⟨rfl, hy⟩ | ⟨b', o', n', c', rfl, h1, _⟩
    · have : ys = [] := by simpa using hy
      subst this; rfl
    · simp at h1; simp [lenV, h1]
  simp [t219, h.ok, h.cell]
  refine wpH_append app_33_33 (by decide) (by decide) rfl h.owns hr (one_ints _) (by rw [h.owns.len, hxl]; omega) ?_
  intro v' H1 hto
  have hbn : b ∉ (blkOf v).toList := by simpa using h.ne
  have e := hto.mod.old b h.lt hbn
  have hone : oneV v' = true := by obtain ⟨a, n, c, rfl⟩ := hto.owns.shape; simp
  have hok : cellOk H1 b o = true := by unfold cellOk; rw [e]; exact h.ok
  have hfr : cellFree H1 b o = true := by unfold cellFree; rw [e]; exact h.free
  have hne' : blkOf v' ≠ some b := by
    rcases hto.blk with hh | hh
    · rw [hh]; exact h.ne
    · rw [hh]; intro e; simp at e; have := h.lt; omega
  simp [hok, hfr, hone]
  refine ⟨v', ⟨⟨by simpa using hok, by simpa using hfr, by simp [hok], ?_, hne'⟩, setH_congr e, (hto.mod.mono (by simp; intro k hk; exact .inr hk)).trans (Mod.setH _ _ _ (by simp)), ?_⟩⟩
  · have := hto.owns
    rw [← List.map_append] at this
    exact this.of_mod (Mod.setH b o v' (S := [b]) (by simp)) (by intro c hc; simp; intro e; exact hne' (by rw [hc, e]))
  · rcases hto.blk with hh | hh
    · exact .inr (.inl hh)
    · exact .inr (.inr ⟨_, hh, Nat.le_refl _⟩)

/-- How many are taken. -/
def most (xs : List Int) (n : Int) : Nat := min n.toNat xs.length

theorem batch_takeMost {n : Int} (h : ListAt H b o v xs) (hlx : xs.length ≤ 2 ^ 34) :
    CallsH Tryz.prog 321 #[.pointer (some ⟨b, o, none⟩), i64 n] H fun u H' => ∃ v', ListTo H H' b o v v' (xs.drop (most xs n)) ∧ Owns H' 1 3 u ((xs.take (most xs n)).map i64) ∧
      (∀ c, blkOf u = some c → H.size ≤ c ∧ blkOf v' ≠ some c) := by
  apply calls321
  obtain ⟨a, m, c, rfl⟩ := h.owns.shape
  have hmost : (if (xs.length : Int) < (if n > 0 then n else 0) then (xs.length : Int) else (if n > 0 then n else 0)) = (most xs n : Int) := by
    unfold most; split <;> split at * <;> omega
  have hle : most xs n ≤ xs.length := by unfold most; omega
  obtain ⟨hm, hmc, hrd⟩ := h.owns.cut hle
  subst hm
  have hcut := dry_cut_hi (P := Tryz.prog) (n := xs.length) (c := c) (a := a) (k := .i64) (i := (most xs n : Int)) sl_33 (by omega) (by omega)
  simp only [Int.toNat_natCast] at hcut
  simp [t321, h.ok, h.cell]
  rw [show (if (xs.length : Int) < (if 0 < n then n else 0) then (xs.length : Int) else (if 0 < n then n else 0)) = (most xs n : Int) from hmost]
  simp [hcut]
  refine (clone_ints hrd (by simp [lenV]; omega)).mono ?_
  rintro u H1 hu
  have e := hu.mod.old b h.lt (by simp)
  have h1 : ListAt H1 b o (.slice a xs.length c) xs := h.of_mod hu.mod (by simp) (by simp)
  simp [h1.ok, h1.cell]
  refine (delete_ints h1.owns hle (by omega)).mono ?_
  rintro v' H2 ⟨ho, hm2, hb2⟩
  have hbn : b ∉ (blkOf (.slice a xs.length c)).toList := by simpa using h.ne
  have e2 := hm2.old b h1.lt hbn
  have hok : cellOk H2 b o = true := by unfold cellOk; rw [e2]; exact h1.ok
  have hfr : cellFree H2 b o = true := by unfold cellFree; rw [e2]; exact h1.free
  have hone : oneV v' = true := by obtain ⟨a, n, c, rfl⟩ := ho.shape; simp
  have hne' : blkOf v' ≠ some b := by rw [hb2]; exact h.ne
  have hfresh : ∀ d, blkOf u = some d → H.size ≤ d ∧ blkOf v' ≠ some d := fun d hd => by
    refine ⟨hu.fresh d hd, fun hv => ?_⟩
    rw [hb2] at hv
    have := h.owns.lt hv
    have := hu.fresh d hd
    omega
  simp [hok, hfr, hone]
  refine ⟨v', ⟨⟨by simpa using hok, by simpa using hfr, by simp [hok], ?_, hne'⟩, ?_, ?_, ?_⟩, ?_, hfresh⟩
  · have : Owns H2 1 3 v' ((xs.drop (most xs n)).map i64) := ho
    exact this.of_mod (Mod.setH b o v' (S := [b]) (by simp)) (by intro c hc; simp; intro e; exact hne' (by rw [hc, e]))
  · exact setH_congr (e2.trans e)
  · exact ((hu.mod.mono (by simp)).trans (hm2.mono (by simp; intro k hk; exact .inr hk))).trans (Mod.setH _ _ _ (by simp))
  · exact .inr (.inl hb2)
  · rw [← List.map_take]
    refine (hu.owns.of_mod hm2 ?_).of_mod (Mod.setH b o v' (S := [b]) (by simp)) ?_
    · intro d hd hmem
      have hv := (hfresh d hd).2
      rw [hb2] at hv
      exact hv (by simpa using hmem)
    · intro d hd; simp; intro e; subst e
      have := h.lt; have := (hfresh _ hd).1; omega

theorem batch_take (h : ListAt H b o v xs) (hlx : xs.length ≤ 2 ^ 34) :
    CallsH Tryz.prog 318 #[.pointer (some ⟨b, o, none⟩)] H fun u H' => u = .tuple #[i64 (xs.headD 0), .bool (!xs.isEmpty)] ∧ ∃ v', ListTo H H' b o v v' xs.tail := by
  apply calls318
  simp [t318]
  refine (batch_takeMost h hlx).mono ?_
  rintro u H' ⟨v', hto, ho, hfr⟩
  have hl := ho.len
  cases xs with
  | nil =>
    obtain ⟨a, n, c, rfl⟩ := ho.shape
    simp [lenV, most] at hl
    subst hl
    simp
    refine ⟨v', by simpa [most] using hto⟩
  | cons x xs =>
    have hm : most (x :: xs) 1 = 1 := by unfold most; simp
    rw [hm] at ho hl hto
    obtain ⟨a, n, c, rfl⟩ := ho.shape
    simp [lenV] at hl
    subst hl
    obtain ⟨_, hc⟩ := reads_cell (f := i64) (xs := [x]) (by simpa using ho.reads) rfl
    obtain ⟨b', o', rfl, hok, hd⟩ := hc 0 (by simp)
    simp at hok hd
    simp [dry_indexA sl_33 (show (0 : Int) ≤ 0 by omega) (show (0 : Int) < (1 : Nat) by omega), hok, hd]
    refine ⟨v', by simpa using hto⟩

end

/-- How many of a queue are taken at once, for n processors. -/
def shareOf (xs : List Int) (n : Int) : Int := min (min ((xs.length : Int) / n + 1) xs.length) 128

/-- A queue: its row, and for how many processors. -/
structure QueueAt (H : Heap) (b : Nat) (v : Value) (xs : List Int) (n : Int) : Prop where
  hdr : Blk H b #[v, i64 n] 343
  owns : Owns H 1 3 v (xs.map i64)
  ne : blkOf v ≠ some b

structure QueueTo (H H' : Heap) (b : Nat) (v v' : Value) (xs' : List Int) (n : Int) : Prop where
  now : QueueAt H' b v' xs' n
  mod : Mod H H' (b :: (blkOf v).toList)
  blk : blkOf v' = none ∨ blkOf v' = blkOf v ∨ ∃ nb, blkOf v' = some nb ∧ H.size ≤ nb

section
variable {H : Heap} {b : Nat} {v : Value} {xs : List Int} {n : Int}
theorem QueueAt.list (h : QueueAt H b v xs n) : ListAt H b 0 v xs := ⟨by rw [blk_ok h.hdr]; rfl, blk_free h.hdr, by rw [blk_cell h.hdr]; rfl, h.owns, h.ne⟩
theorem QueueAt.of_mod (h : QueueAt H b v xs n) {H' : Heap} {S : List Nat} (m : Mod H H' S) (hb : b ∉ S) (hv : ∀ c, blkOf v = some c → c ∉ S) : QueueAt H' b v xs n :=
  ⟨m.get h.hdr hb, h.owns.of_mod m hv, h.ne⟩
theorem QueueAt.to (h : QueueAt H b v xs n) {H' : Heap} {v' : Value} {xs' : List Int} (t : ListTo H H' b 0 v v' xs') : QueueTo H H' b v v' xs' n :=
  ⟨⟨by rw [Blk, t.hdr, get_setH_self h.hdr]; rfl, t.now.owns, t.now.ne⟩, t.mod, t.blk⟩

theorem queue_len (h : QueueAt H b v xs n) : CallsH Tryz.prog 279 #[ptr b] H fun u H' => u = i64 xs.length ∧ H' = H := by
  apply calls279
  simp [t279]
  refine (batch_len h.list).mono ?_
  rintro _ _ ⟨rfl, rfl⟩
  simp

theorem queue_share (h : QueueAt H b v xs n) (hn : 1 ≤ n) (hlx : xs.length ≤ 2 ^ 34) : CallsH Tryz.prog 322 #[ptr b] H fun u H' => u = i64 (shareOf xs n) ∧ H' = H := by
  apply calls322
  have hok : cellOk H b 1 = true := by rw [blk_ok h.hdr]; rfl
  have hc : cellD H b 1 = i64 n := by rw [blk_cell h.hdr]; rfl
  simp [t322, hok, hc]
  refine wpH_callW body_279 ?_
  refine (queue_len h).mono ?_
  rintro _ _ ⟨rfl, rfl⟩
  refine ⟨held_cons_load one_3 hok hc (held_nil _ _), ?_⟩
  have hn0 : n ≠ 0 := by omega
  have hq0 : (0 : Int) ≤ (xs.length : Int) := by omega
  have hdiv : (xs.length : Int).tdiv n = (xs.length : Int) / n := Int.tdiv_eq_ediv_of_nonneg hq0
  have hd1 : (xs.length : Int) / n ≤ xs.length := Int.ediv_le_self _ hq0
  have hd0 : 0 ≤ (xs.length : Int) / n := Int.ediv_nonneg hq0 (by omega)
  have hw1 : IntKind.i64.wrap ((xs.length : Int) / n) = (xs.length : Int) / n := wrap_i64 _ (by omega) (by omega)
  have hw2 : IntKind.i64.wrap ((xs.length : Int) / n + 1) = (xs.length : Int) / n + 1 := wrap_i64 _ (by omega) (by omega)
  simp [dry_quo _ _ _ _ _ _ hn0, hdiv, hw1, hw2]
  refine wpH_callW body_279 ?_
  refine (queue_len h).mono ?_
  rintro _ _ ⟨rfl, rfl⟩
  refine ⟨held_cons_load one_3 hok hc (held_nil _ _), ?_⟩
  simp
  unfold shareOf
  split <;> split at * <;> omega

theorem queue_take (h : QueueAt H b v xs n) (hn : 1 ≤ n) (hlx : xs.length ≤ 2 ^ 34) :
    CallsH Tryz.prog 276 #[ptr b] H fun u H' => ∃ v', QueueTo H H' b v v' (xs.drop (most xs (shareOf xs n))) n ∧ Owns H' 1 3 u ((xs.take (most xs (shareOf xs n))).map i64) ∧
      (∀ c, blkOf u = some c → H.size ≤ c ∧ blkOf v' ≠ some c) := by
  apply calls276
  simp [t276]
  refine (queue_share h hn hlx).mono ?_
  rintro _ _ ⟨rfl, rfl⟩
  refine (batch_takeMost h.list hlx).mono ?_
  rintro u H' ⟨v', hto, ho, hf⟩
  exact ⟨v', h.to hto, by simpa using ho, hf⟩

theorem queue_one (h : QueueAt H b v xs n) (hlx : xs.length ≤ 2 ^ 34) :
    CallsH Tryz.prog 272 #[ptr b] H fun u H' => u = .tuple #[i64 (xs.headD 0), .bool (!xs.isEmpty)] ∧ ∃ v', QueueTo H H' b v v' xs.tail n := by
  apply calls272
  simp [t272]
  refine (batch_take h.list hlx).mono ?_
  rintro _ H' ⟨rfl, v', hto⟩
  simp
  exact ⟨v', h.to hto⟩

theorem queue_put {x : Value} {ys : List Int} (h : QueueAt H b v xs n) (hr : Reads H 1 x (ys.map i64)) (hlx : xs.length ≤ 2 ^ 34) (hly : ys.length ≤ 2 ^ 34) :
    CallsH Tryz.prog 161 #[ptr b, x] H fun _ H' => ∃ v', QueueTo H H' b v v' (xs ++ ys) n := by
  apply calls161
  simp [t161]
  refine (batch_put h.list hr hlx hly).mono ?_
  rintro _ H' ⟨v', hto⟩
  exact ⟨v', h.to hto⟩

theorem queue_list (h : QueueAt H b v xs n) (hlx : xs.length ≤ 2 ^ 34) :
    CallsH Tryz.prog 162 #[ptr b] H fun u H' => NewTo H H' 1 3 u (xs.map i64) := by
  apply calls162
  simp [t162]
  apply calls220
  have hl := h.list
  simp [t220, hl.ok, hl.cell]
  refine (clone_ints h.owns.reads (by rw [h.owns.len]; omega)).mono ?_
  rintro u H' hu
  simpa using hu
end

end Go.Tr
