/- The program's tables as they are laid, and the functions that look into them: package status (Legal), event (of, value, Right), mach (of, ring, Lock). Conditions: the tables lie in the heap as the program's text lays them. -/
import Derived.Test.YtgjafaheglnheaaGreatDoorHsCRing2
set_option maxRecDepth 20000
namespace Go.Tr
open Go.Proofs (Tryz.prog)

/-- Which statuses a step leads to. -/
def nextOf : Nat → List Int
  | 0 => [1]
  | 1 => [2]
  | 2 => [1, 3, 4, 5, 6]
  | 3 => [1]
  | 4 => [1]
  | 5 => [1]
  | _ => []
/-- A kind's name (its bytes), and its step. -/
def kindOf' : Nat → List UInt8 × Int × Int
  | 0 => ([115, 112, 97, 119, 110], 0, 1)
  | 1 => ([114, 101, 97, 100, 121], 0, 1)
  | 2 => ([100, 105, 115, 112, 97, 116, 99, 104], 1, 2)
  | 3 => ([121, 105, 101, 108, 100], 2, 1)
  | 4 => ([98, 108, 111, 99, 107], 2, 3)
  | 5 => ([115, 108, 101, 101, 112], 2, 4)
  | 6 => ([119, 97, 105, 116], 2, 5)
  | _ => ([101, 120, 105, 116], 2, 6)
/-- Which lock a place takes. -/
def whose : Nat → Int
  | 2 | 4 | 7 | 10 | 11 | 13 | 15 | 18 | 23 | 27 => 1
  | 3 | 17 | 28 => 2
  | 6 => 3
  | 9 => 4
  | 14 | 25 | 29 | 30 => 5
  | _ => 0

/-- The table of math/bits: which bit. -/
def tzTab : List Nat := [0, 1, 56, 2, 57, 49, 28, 3, 61, 58, 42, 50, 38, 29, 17, 4, 62, 47, 59, 36, 45, 43, 51, 22, 53, 39, 33, 30, 24, 18, 12, 5, 63, 55, 48, 27, 60, 41, 37, 16, 46, 35, 44, 21, 52, 32, 23, 11, 54, 26, 40, 15, 34, 20, 31, 10, 25, 14, 19, 9, 13, 8, 7, 6]

/-- The tables lie below block gb. -/
structure Glob (gb : Nat) (H : Heap) : Prop where
  le : gb ≤ H.size
  big : 6 ≤ gb
  next : ∀ s, s < 7 → cellOk H 0 s = true ∧ ∃ a n c, cellD H 0 s = .slice a n c ∧ n = (nextOf s).length ∧
    ∀ k, k < (nextOf s).length → ∃ b o, a = some ⟨b, o, none⟩ ∧ b < gb ∧ cellOk H b (o + k) = true ∧ cellD H b (o + k) = u64 ((nextOf s).getD k 0)
  all : ∀ k, k < 8 → rowOk H 1 (3 * k) 3 = true ∧ ∃ n : ByteArray, rowD H 1 (3 * k) 3 = #[.string n, u64 (kindOf' k).2.1, u64 (kindOf' k).2.2]
  places : ∀ k, k < 31 → rowOk H 2 (2 * k) 2 = true ∧ ∃ n : ByteArray, rowD H 2 (2 * k) 2 = #[.string n, i64 (whose k)]
  tz : ∀ k, k < 64 → cellOk H 5 k = true ∧ cellD H 5 k = .int .u8 (tzTab.getD k 0 : Nat)

theorem Glob.of_mod {gb : Nat} {H H' : Heap} (h : Glob gb H) {S : List Nat} (m : Mod H H' S) (hs : ∀ s ∈ S, gb ≤ s) : Glob gb H' := by
  have old : ∀ k, k < gb → H'[k]? = H[k]? := fun k hk => m.old k (Nat.lt_of_lt_of_le hk h.le) fun hm => by have := hs k hm; omega
  have hb := h.big
  refine ⟨Nat.le_trans h.le m.size, hb, fun s hs' => ?_, fun k hk => ?_, fun k hk => ?_, fun k hk => ?_⟩
  · obtain ⟨h1, a, n, c, h2, h3, h4⟩ := h.next s hs'
    have e := old 0 (by omega)
    have ec : cellD H' 0 s = cellD H 0 s := by unfold cellD; rw [e]
    refine ⟨by unfold cellOk; rw [e]; exact h1, a, n, c, ec.trans h2, h3, fun k hk => ?_⟩
    obtain ⟨b, o, k1, k2, k3, k4⟩ := h4 k hk
    have eb := old b k2
    exact ⟨b, o, k1, k2, by unfold cellOk; rw [eb]; exact k3, by unfold cellD; rw [eb]; exact k4⟩
  · have e := old 1 (by omega)
    obtain ⟨h1, h2⟩ := h.all k hk
    exact ⟨by unfold rowOk; rw [e]; exact h1, by unfold rowD; rw [e]; exact h2⟩
  · have e := old 2 (by omega)
    obtain ⟨h1, h2⟩ := h.places k hk
    exact ⟨by unfold rowOk; rw [e]; exact h1, by unfold rowD; rw [e]; exact h2⟩
  · have e := old 5 (by omega)
    obtain ⟨h1, h2⟩ := h.tz k hk
    exact ⟨by unfold cellOk; rw [e]; exact h1, by unfold cellD; rw [e]; exact h2⟩
theorem Glob.push {gb : Nat} {H : Heap} (h : Glob gb H) (x : Obj) : Glob gb (H.push x) := h.of_mod (Mod.push x []) (by simp)
theorem Glob.set {gb : Nat} {H : Heap} (h : Glob gb H) {b o : Nat} {v : Value} (hb : gb ≤ b) : Glob gb (setH H b o v) := h.of_mod (Mod.setH b o v (S := [b]) (by simp)) (by simpa using hb)

/-! ### status.Legal -/

section
variable {H : Heap} {gb : Nat}

theorem index_stat {v : Value} {xs : List Int} {g : Int} (hr : ∃ a n c, v = .slice a n c ∧ n = xs.length ∧ ∀ k, k < xs.length → ∃ b o, a = some ⟨b, o, none⟩ ∧ cellOk H b (o + k) = true ∧ cellD H b (o + k) = u64 (xs.getD k 0)) (hlen : xs.length ≤ 2 ^ 36) :
    CallsH Tryz.prog 210 #[v, u64 g] H fun u H' => u = i64 (place xs g) ∧ H' = H := by
  apply calls210
  obtain ⟨a, n, c, rfl, hn, hcell⟩ := hr
  subst hn
  simp only [t210, wpH_pure_eq]
  refine ⟨_, dry_len len_210, ?_⟩
  refine wpH_loop (fun s H' => H' = H ∧ ∃ k : Nat, k ≤ xs.length ∧ s = [i64 k] ∧ ∀ j, j < k → xs.getD j 0 ≠ g) (fun s _ => xs.length - (intOf (sl s 0)).toNat) ⟨rfl, 0, by omega, rfl, by simp⟩ ?_
  rintro s H' ⟨rfl, k, hk, rfl, hne⟩
  by_cases hlt : k < xs.length
  · obtain ⟨b, o, rfl, hok, hd⟩ := hcell k hlt
    have hw : IntKind.i64.wrap ((k : Int) + 1) = ((k + 1 : Nat) : Int) := by rw [wrap_i64 _ (by omega) (by omega)]; simp
    simp [hlt, dry_indexA sl_210 (show (0 : Int) ≤ (k : Int) by omega) (show (k : Int) < (xs.length : Int) by omega), hok, hd, hw]
    by_cases he : g = xs[k]
    · subst he
      simp
      unfold place
      have hmem : xs[k] ∈ xs := List.getElem_mem hlt
      rw [if_pos hmem]
      have h1 := List.idxOf_lt_length_of_mem hmem
      have h2 : xs[xs.idxOf xs[k]] = xs[k] := List.getElem_idxOf h1
      have h3 : ¬ xs.idxOf xs[k] < k := fun h => hne _ h (by simp [h1, h2])
      have h4 : ¬ k < xs.idxOf xs[k] := fun h => by
        have := List.not_of_lt_findIdx (p := (· == xs[k])) (xs := xs) (i := k) h
        simp at this
      omega
    · simp [he, intOf]
      refine ⟨⟨k + 1, by omega, by simp, fun j hj => ?_⟩, by omega⟩
      rcases Nat.lt_or_ge j k with h | h
      · simpa using hne j h
      · have : j = k := by omega
        subst this; simp [hlt]; exact fun h => he h.symm
  · have hkl : k = xs.length := by omega
    subst hkl
    simp [place]
    intro hm
    have h1 := List.idxOf_lt_length_of_mem hm
    have h2 := hne _ h1
    simp [h1] at h2

theorem contains_stat {v : Value} {xs : List Int} {g : Int} (hr : ∃ a n c, v = .slice a n c ∧ n = xs.length ∧ ∀ k, k < xs.length → ∃ b o, a = some ⟨b, o, none⟩ ∧ cellOk H b (o + k) = true ∧ cellD H b (o + k) = u64 (xs.getD k 0)) (hlen : xs.length ≤ 2 ^ 36) :
    CallsH Tryz.prog 146 #[v, u64 g] H fun u H' => u = .bool (decide (g ∈ xs)) ∧ H' = H := by
  apply calls146
  simp [t146]
  refine (index_stat hr hlen).mono ?_
  rintro _ _ ⟨rfl, rfl⟩
  by_cases h : g ∈ xs <;> simp [place, h]

/-- Is it a step? -/
def legal (s t : Int) : Bool := decide (s < 7) && decide (t ∈ nextOf s.toNat)

theorem legal_spec {s t : Int} (h : Glob gb H) (h0 : 0 ≤ s) : CallsH Tryz.prog 84 #[u64 s, u64 t] H fun u H' => u = .bool (legal s t) ∧ H' = H := by
  apply calls84
  by_cases hs : s < 7
  · obtain ⟨h1, a, n, c, h2, h3, h4⟩ := h.next s.toNat (by omega)
    simp [t84, hs, dry_indexArr arr_255 h0 (show s < (7 : Nat) by omega), h1]
    refine (contains_stat (xs := nextOf s.toNat) ⟨a, n, c, h2, h3, fun k hk => by obtain ⟨b, o, k1, -, k3, k4⟩ := h4 k hk; exact ⟨b, o, k1, k3, k4⟩⟩ ?_).mono ?_
    · unfold nextOf; split <;> decide
    · rintro _ _ ⟨rfl, rfl⟩
      simp [legal, hs]
  · simp [t84, hs, legal]

/-! ### event -/

theorem setH_push_new (H : Heap) (c : Array Value) (e : TypeId) (f : Nat × Nat) (o : Nat) (v : Value) : setH (H.push (.cells c e f)) H.size o v = H.push (.cells (c.setIfInBounds o v) e f) := by
  unfold setH
  apply Array.ext_getElem?
  intro i
  simp only [Array.getElem?_modify, Array.getElem?_push]
  by_cases h : i = H.size
  · subst h; simp
  · simp [h, Ne.symm h]

theorem event_of {k : Int} (h : Glob gb H) : CallsH Tryz.prog 145 #[i64 k] H fun u H' => (∃ n f t, u = .tuple #[.agg #[.string n, u64 f, u64 t], .bool (decide (0 ≤ k ∧ k < 8))] ∧
    (0 ≤ k → k < 8 → f = (kindOf' k.toNat).2.1 ∧ t = (kindOf' k.toNat).2.2) ∧ (¬ (0 ≤ k ∧ k < 8) → f = 0 ∧ t = 0)) ∧ Mod H H' [] := by
  apply calls145
  simp only [t145]
  rw [wpH_alloc zero_251]
  by_cases hk : 0 ≤ k ∧ k < 8
  · obtain ⟨hk0, hk1⟩ := hk
    have e1 : ¬ k < 0 := by omega
    have e2 : ¬ 8 ≤ k := by omega
    obtain ⟨h1, n, h2⟩ := (h.push (.cells (Value.cells (.agg #[.string ByteArray.empty, .int .u64 0, .int .u64 0])) 251 (0, 0))).all k.toNat (by omega)
    have e3 : k.toNat * 3 = 3 * k.toNat := Nat.mul_comm _ _
    simp [e1, e2, dry_indexArr arr_334 hk0 (show k < (8 : Nat) by omega), e3]
    rw [wpH_loadAgg_eq agg_251 h1, h2]
    refine wpH_storeAgg agg_251 rfl (by simp) (by simp [Value.cells]) (by simp) ?_
    simp [setRowH, Value.cells, setH_push_new]
    rw [wpH_loadAgg_eq agg_251 (by simp)]
    simp [hk0, hk1]
    exact Mod.push _ _
  · have hk' : k < 0 ∨ (¬ k < 0 ∧ 8 ≤ k) := by omega
    rcases hk' with h0 | ⟨h0, h8⟩
    · simp [h0, build_251_]
      refine wpH_storeAgg agg_251 rfl (by simp) (by simp [Value.cells]) (by simp) ?_
      simp [setRowH, Value.cells, setH_push_new]
      rw [wpH_loadAgg_eq agg_251 (by simp)]
      simp
      exact ⟨⟨_, _, _, ⟨⟨rfl, rfl, rfl⟩, fun _ => by omega⟩, by omega, by simp⟩, Mod.push _ _⟩
    · simp [h0, h8, build_251_]
      refine wpH_storeAgg agg_251 rfl (by simp) (by simp [Value.cells]) (by simp) ?_
      simp [setRowH, Value.cells, setH_push_new]
      rw [wpH_loadAgg_eq agg_251 (by simp)]
      simp
      exact ⟨⟨_, _, _, ⟨⟨rfl, rfl, rfl⟩, fun _ => by omega⟩, by omega, by simp⟩, Mod.push _ _⟩
end

end Go.Tr
