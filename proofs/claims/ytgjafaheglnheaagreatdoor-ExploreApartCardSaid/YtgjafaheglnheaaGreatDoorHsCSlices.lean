/- Go's library on slices, as far as this program calls it: Clone, Index, Contains, Delete. Conditions: the slice reads as told, or is owned; lengths are at most 2^35. -/
import Derived.Test.YtgjafaheglnheaaGreatDoorHsFacts
import Derived.Test.YtgjafaheglnheaaGreatDoorHsTA
set_option maxRecDepth 20000
namespace Go.Tr
open Go.Proofs (Tryz.prog)

/-- A slice made anew. -/
structure NewTo (H H' : Heap) (sz : Nat) (e : TypeId) (v : Value) (cells : List Value) : Prop where
  owns : Owns H' sz e v cells
  mod : Mod H H' []
  fresh : ∀ b, blkOf v = some b → H.size ≤ b
  len : lenV v * sz = cells.length

def cloneT (t : TypeId) (a0 : Value) : T := .pure (.bin .eql t (.tmp 3) (.const (.slice none 0 0)) a0 (.slice none 0 0)) fun v4 => .ite v4 (.ret [(.slice none 0 0)]) (.op [] (.buildSlice t 0
  #[]) fun v5 => .op [] (.builtin .append #[t, t] t #[false, false] #[v5, a0]) fun v7 => .ret [v7])

theorem clone_tree {t e : TypeId} {sz by_ : Nat} {z : Array Value} {H : Heap} {x : Value} {ys : List Value} {Q : Value → Heap → Prop} (hl : lenT Tryz.prog t = true) (hb : buildT Tryz.prog t 0 [] = some (e, #[]))
    (ha : appT Tryz.prog t t = some (e, sz, by_, z)) (hsz : 0 < sz) (hby : by_ ≤ 1024) (hzs : z.size = sz) (hr : Reads H sz x ys) (hone : ∀ u ∈ ys, oneV u = true) (hlen : lenV x ≤ 2 ^ 35)
    (hQ : ∀ v H', NewTo H H' sz e v ys → Q v H') : wpH Tryz.prog (fun vs H' => Q (retVal vs) H') (cloneT t x) (fun _ _ _ => False) H := by
  have go : ∀ (a : Option Addr) (n c : Nat), x = .slice a n c → wpH Tryz.prog (fun vs H' => Q (retVal vs) H') (cloneT t x) (fun _ _ _ => False) H := by
    rintro a n c rfl
    simp only [cloneT, wpH_pure_eq]
    refine ⟨_, dry_slice_nil hl, ?_⟩
    rw [wpH_ite]
    cases ha0 : a with
    | none =>
      subst ha0
      have : ys = [] := by
        rcases hr with ⟨_, h⟩ | ⟨b, o, n', c', h, _⟩
        · exact h
        · cases h
      subst this
      simp
      exact hQ _ _ ⟨.inl ⟨rfl, rfl⟩, Mod.refl _ _, (by intro b hb; cases hb), by simp [lenV]⟩
    | some ad =>
      subst ha0
      simp only [Option.isNone_some, Bool.false_eq_true, if_false]
      have hb' : buildT Tryz.prog t 0 (#[] : Array (Nat × Value)).toList = some (e, #[]) := hb
      refine wpH_buildSlice (P := Tryz.prog) (t := t) (e := e) (n := 0) (ps := #[]) (cells := #[]) hb' ?_
      have hown : Owns (H.push (.cells #[] e (0, 0))) sz e (.slice (some ⟨H.size, 0, none⟩) 0 0) [] := .inr ⟨H.size, 0, 0, [], rfl, by simp, by simp, Nat.le_refl _, by rw [Blk]; simp, by simp⟩
      have hr' : Reads (H.push (.cells #[] e (0, 0))) sz (.slice (some ad) n c) ys := by
        rcases hr with ⟨h, _⟩ | ⟨b, o, n', c', h, h1, h2, h3⟩
        · cases h
        · have hlt : b < H.size := by
            unfold rowOk at h2
            split at h2
            · rename_i hb'; exact blk_lt hb'
            · cases h2
          exact .inr ⟨b, o, n', c', h, h1, by unfold rowOk at *; rw [get_push_lt hlt]; exact h2, by unfold rowD at *; rw [get_push_lt hlt]; exact h3⟩
      refine wpH_append ha hsz hby hzs hown hr' hone (by simp only [lenV] at *; omega) ?_
      intro v' H' hto
      simp only [wpH_ret, retVal_one]
      refine hQ _ _ ⟨by simpa using hto.owns, ((Mod.push _ _).trans hto.mod).drop fun k hk hlt => ?_, fun b hb => ?_, by simpa using hto.len⟩
      · simp at hk; omega
      · rcases hto.blk with h | h
        · rw [hb] at h; simp at h; omega
        · rw [hb] at h; simp at h; omega
  rcases hr with ⟨rfl, _⟩ | ⟨b, o, n, c, rfl, _⟩ <;> exact go _ _ _ rfl

theorem one_ints (xs : List Int) : ∀ u ∈ xs.map i64, oneV u = true := by
  intro u hu; obtain ⟨n, _, rfl⟩ := List.mem_map.1 hu; simp
theorem one_u64s (xs : List Int) : ∀ u ∈ xs.map u64, oneV u = true := by
  intro u hu; obtain ⟨n, _, rfl⟩ := List.mem_map.1 hu; simp

theorem clone_ints {H : Heap} {x : Value} {xs : List Int} (hr : Reads H 1 x (xs.map i64)) (hlen : lenV x ≤ 2 ^ 35) :
    CallsH Tryz.prog 134 #[x] H fun v H' => NewTo H H' 1 3 v (xs.map i64) := by
  apply calls134
  exact clone_tree (t := 33) len_33 bs_33_0 app_33_33 (by decide) (by decide) rfl hr (one_ints xs) hlen fun v H' h => h
theorem clone_u64s {H : Heap} {x : Value} {xs : List Int} (hr : Reads H 1 x (xs.map u64)) (hlen : lenV x ≤ 2 ^ 35) :
    CallsH Tryz.prog 185 #[x] H fun v H' => NewTo H H' 1 81 v (xs.map u64) := by
  apply calls185
  exact clone_tree (t := 200) len_200 bs_200_0 app_200_200 (by decide) (by decide) rfl hr (one_u64s xs) hlen fun v H' h => h
theorem clone_events {H : Heap} {x : Value} {ys : List Value} (hr : Reads H 5 x ys) (ho : ∀ u ∈ ys, oneV u = true) (hlen : lenV x ≤ 2 ^ 35) :
    CallsH Tryz.prog 184 #[x] H fun v H' => NewTo H H' 5 43 v ys := by
  apply calls184
  exact clone_tree (t := 60) len_60 bs_60_0 app_60_60 (by decide) (by decide) rfl hr ho hlen fun v H' h => h

def intOf : Value → Int
  | .int _ n => n
  | _ => 0

/-- The first place of a number in a row; below 0: there is none. -/
def place (xs : List Int) (g : Int) : Int := if g ∈ xs then (xs.idxOf g : Int) else -1

theorem reads_cell {H : Heap} {v : Value} {xs : List Int} {f : Int → Value} (h : Reads H 1 v (xs.map f)) {a : Option Addr} {n c : Nat} (hv : v = .slice a n c) :
    n = xs.length ∧ ∀ k, k < xs.length → ∃ b o, a = some ⟨b, o, none⟩ ∧ cellOk H b (o + k) = true ∧ cellD H b (o + k) = f (xs.getD k 0) := by
  subst hv
  rcases h with ⟨h, h2⟩ | ⟨b, o, n', c', h, h1, h2, h3⟩
  · cases h; have : xs = [] := by simpa using h2
    subst this; exact ⟨rfl, by intro k hk; simp at hk⟩
  · cases h
    simp at h1
    refine ⟨by omega, fun k hk => ⟨b, o, rfl, ?_, ?_⟩⟩
    · exact rowOk_spec h2 k (by omega)
    · unfold rowOk at h2
      split at h2
      · rename_i cc e f' hb
        have hle : o + n * 1 ≤ cc.size := Nat.le_of_ble_eq_true h2
        rw [blk_cell hb]
        rw [blk_row hb] at h3
        have h4 : (cc.extract o (o + n * 1)).toList[k]? = (xs.map f)[k]? := by rw [h3]
        rw [Array.getElem?_toList, Array.getElem?_extract] at h4
        rw [if_pos (by omega)] at h4
        rw [Array.getD_eq_getD_getElem?, h4]
        simp [hk]
      · cases h2

theorem index_ints {H : Heap} {v : Value} {xs : List Int} {g : Int} (hr : Reads H 1 v (xs.map i64)) (hlen : xs.length ≤ 2 ^ 36) :
    CallsH Tryz.prog 261 #[v, i64 g] H fun u H' => u = i64 (place xs g) ∧ H' = H := by
  apply calls261
  obtain ⟨a, n, c, rfl⟩ : ∃ a n c, v = .slice a n c := by
    rcases hr with ⟨rfl, _⟩ | ⟨b, o, n, c, rfl, _⟩ <;> exact ⟨_, _, _, rfl⟩
  obtain ⟨hn, hcell⟩ := reads_cell hr rfl
  subst hn
  simp only [t261, wpH_pure_eq]
  refine ⟨_, dry_len len_33, ?_⟩
  refine wpH_loop (fun s H' => H' = H ∧ ∃ k : Nat, k ≤ xs.length ∧ s = [i64 k] ∧ ∀ j, j < k → xs.getD j 0 ≠ g) (fun s _ => xs.length - (intOf (sl s 0)).toNat) ⟨rfl, 0, by omega, rfl, by simp⟩ ?_
  rintro s H' ⟨rfl, k, hk, rfl, hne⟩
  by_cases hlt : k < xs.length
  · obtain ⟨b, o, rfl, hok, hd⟩ := hcell k hlt
    have hw : IntKind.i64.wrap ((k : Int) + 1) = ((k + 1 : Nat) : Int) := by rw [wrap_i64 _ (by omega) (by omega)]; simp
    simp [hlt, dry_indexA sl_33 (show (0 : Int) ≤ (k : Int) by omega) (show (k : Int) < (xs.length : Int) by omega), hok, hd, hw]
    by_cases he : g = xs[k]
    · subst he
      simp
      unfold place
      have hmem : xs[k] ∈ xs := List.getElem_mem hlt
      rw [if_pos hmem]
      have h1 := List.idxOf_lt_length_of_mem hmem
      have h2 : xs[xs.idxOf xs[k]] = xs[k] := List.getElem_idxOf h1
      have h3 : ¬ xs.idxOf xs[k] < k := fun h => hne _ h (by simp [h1, h2])
      have h4 : ¬ k < xs.idxOf xs[k] := fun h => by
        have := List.not_of_lt_findIdx (p := (· == xs[k])) (xs := xs) (i := k) h
        simp at this
      omega
    · simp [he, intOf]
      refine ⟨⟨k + 1, by omega, by simp, fun j hj => ?_⟩, by omega⟩
      rcases Nat.lt_or_ge j k with h | h
      · simpa using hne j h
      · have : j = k := by omega
        subst this; simp [hlt]; exact fun h => he h.symm
  · have hkl : k = xs.length := by omega
    subst hkl
    simp [place]
    intro hm
    have h1 := List.idxOf_lt_length_of_mem hm
    have h2 := hne _ h1
    simp [h1] at h2

theorem contains_ints {H : Heap} {v : Value} {xs : List Int} {g : Int} (hr : Reads H 1 v (xs.map i64)) (hlen : xs.length ≤ 2 ^ 36) :
    CallsH Tryz.prog 215 #[v, i64 g] H fun u H' => u = .bool (decide (g ∈ xs)) ∧ H' = H := by
  apply calls215
  simp [t215]
  refine (index_ints hr hlen).mono ?_
  rintro _ _ ⟨rfl, rfl⟩
  by_cases h : g ∈ xs <;> simp [place, h]

/-- slices.Delete(s, 0, j). -/
theorem delete_ints {H : Heap} {v : Value} {xs : List Int} {j : Nat} (ho : Owns H 1 3 v (xs.map i64)) (hj : j ≤ xs.length) (hlen : xs.length ≤ 2 ^ 35) :
    CallsH Tryz.prog 326 #[v, i64 0, i64 j] H fun u H' => Owns H' 1 3 u ((xs.drop j).map i64) ∧ Mod H H' (blkOf v).toList ∧ blkOf u = blkOf v := by
  apply calls326
  rcases ho with ⟨rfl, hx⟩ | ⟨b, n, c, l, rfl, hl, hc, hn, hb, ht⟩
  · have hx : xs = [] := by simpa using hx
    subst hx
    have hj0 : j = 0 := by simpa using hj
    subst hj0
    obtain ⟨u, hu⟩ := dry_cut3 (P := Tryz.prog) (n := 0) (c := 0) (a := none) (k := .i64) (k' := .i64) (k'' := .i64) (i := 0) (j := 0) (m := 0) sl_33 (by omega) (by omega) (by omega) (by omega)
    simp [t326, hu]
    exact ⟨.inl ⟨rfl, rfl⟩, Mod.refl _ _⟩
  · simp at hl
    subst hl
    obtain ⟨u, hu⟩ := dry_cut3 (P := Tryz.prog) (n := xs.length) (c := c) (a := some ⟨b, 0, none⟩) (k := .i64) (k' := .i64) (k'' := .i64) (i := 0) (j := j) (m := xs.length) sl_33 (by omega) (by omega) (by omega) (by omega)
    by_cases hj0 : j = 0
    · subst hj0
      simp only [Int.natCast_zero] at hu
      simp [t326, hu]
      exact ⟨.inr ⟨b, xs.length, c, l, rfl, by simp, hc, hn, hb, ht⟩, Mod.refl _ _⟩
    · have hj1 : ¬ (0 : Int) = (j : Int) := by omega
      have h1 := dry_cut_hi (P := Tryz.prog) (n := xs.length) (c := c) (a := some ⟨b, 0, none⟩) (k := .i64) (i := 0) sl_33 (by omega) (by omega)
      have h2 := dry_cut_lo (P := Tryz.prog) (n := xs.length) (c := c) (a := some ⟨b, 0, none⟩) (k := .i64) (i := j) sl_33 (by omega) (by omega)
      simp only [Int.toNat_zero] at h1
      simp [t326, hu, hj1, h1, h2]
      have hlc : l.length = c := by simpa using hc
      have hown : Owns H 1 3 (.slice (some ⟨b, 0, none⟩) 0 c) [] := .inr ⟨b, 0, c, l, rfl, by simp, hc, by omega, hb, by simp⟩
      have hrd : Reads H 1 (.slice (if c = j then some ⟨b, 0, none⟩ else some (Addr.add ⟨b, 0, none⟩ j)) (xs.length - j) (c - j)) ((xs.drop j).map i64) := by
        by_cases hcj : c = j
        · rw [if_pos hcj]
          have : xs.length = j := by omega
          refine .inr ⟨b, 0, _, _, rfl, by simp, ?_, ?_⟩
          · rw [blk_rowOk hb]; exact Nat.ble_eq_true_of_le (by simp; omega)
          · rw [blk_row hb]; simp [this]
        · rw [if_neg hcj, add_none]
          refine .inr ⟨b, 0 + j, _, _, rfl, by simp, ?_, ?_⟩
          · rw [blk_rowOk hb]; exact Nat.ble_eq_true_of_le (by simp; omega)
          · rw [blk_row hb]
            have ht' : xs.map i64 = l.take xs.length := by rw [← ht]; simp
            rw [List.map_drop, ht']
            simp [List.drop_take]
      refine wpH_append app_33_33 (by decide) (by decide) rfl hown hrd (one_ints _) (by simp [lenV]; omega) ?_
      intro v' H1 hto
      have hv' : v' = .slice (some ⟨b, 0, none⟩) (xs.length - j) c := by
        have := hto.fit (some ⟨b, 0, none⟩) 0 c rfl (by simp [lenV]; omega)
        simpa [lenV] using this
      subst hv'
      have h3 := dry_cut_lohi (P := Tryz.prog) (n := xs.length - j) (c := c) (a := some ⟨b, 0, none⟩) (k := .i64) (k' := .i64) (i := ((xs.length - j : Nat) : Int)) (j := (xs.length : Int)) sl_33 (by omega) (by omega) (by omega)
      simp [h3]
      have hne : ¬ c = xs.length - j := by omega
      rw [if_neg hne, add_none]
      rcases hto.owns with ⟨h, _⟩ | ⟨b', n', c', l', h, g1, g2, g3, g4, g5⟩
      · cases h
      cases h
      refine wpH_clear make_33 rfl (by simp) (by rw [blk_rowOk g4]; exact Nat.ble_eq_true_of_le (by simp at g2 ⊢; omega)) (blk_blkFree g4) ?_
      simp
      have hspan : xs.length - j + (List.replicate (xs.length - (xs.length - j)) (i64 0)).length ≤ l'.length := by simp at g2 ⊢; omega
      refine ⟨.inr ⟨b, _, c, splice l' (xs.length - j) (List.replicate (xs.length - (xs.length - j)) (i64 0)), rfl, by simp, ?_, by omega, ?_, ?_⟩, ?_⟩
      · unfold splice; simp at g2 ⊢; omega
      · have := get_setRowH (vs := List.replicate (xs.length - (xs.length - j)) (i64 0)) g4 hspan
        simpa using this
      · unfold splice
        simp only [Nat.mul_one] at g5 ⊢
        rw [List.append_assoc, List.take_left' (by simp at g2 ⊢; omega), g5]
        simp
      · exact (hto.mod.mono (by simp)).trans (Mod.setRowH _ _ (by simp))

end Go.Tr
