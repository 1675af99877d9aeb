/- Packages mach, status, section: the contracts of the functions that the world calls. Conditions: the program's tables are laid; memory and rows lie in the heap as told. -/
import Derived.Test.YtgjafaheglnheaaGreatDoorHsCEvent
import Derived.Test.YtgjafaheglnheaaGreatDoorHsCCell
set_option maxRecDepth 20000
namespace Go.Tr
open Go.Proofs (Tryz.prog)

section
variable {H : Heap} {gb : Nat}

theorem mach_of {k : Int} (h : Glob gb H) : CallsH Tryz.prog 233 #[i64 k] H fun u H' => (∃ n f, u = .tuple #[.agg #[.string n, i64 f], .bool (decide (0 ≤ k ∧ k < 31))] ∧
    (0 ≤ k → k < 31 → f = whose k.toNat)) ∧ Mod H H' [] := by
  apply calls233
  simp only [t233]
  rw [wpH_alloc zero_366]
  by_cases hk : 0 ≤ k ∧ k < 31
  · obtain ⟨hk0, hk1⟩ := hk
    have e1 : ¬ k < 0 := by omega
    have e2 : ¬ 31 ≤ k := by omega
    obtain ⟨h1, n, h2⟩ := (h.push (.cells (Value.cells (.agg #[.string ByteArray.empty, .int .i64 0])) 366 (0, 0))).places k.toNat (by omega)
    have e3 : k.toNat * 2 = 2 * k.toNat := Nat.mul_comm _ _
    simp [e1, e2, dry_indexArr arr_402 hk0 (show k < (31 : Nat) by omega), e3]
    rw [wpH_loadAgg_eq agg_366 h1, h2]
    refine wpH_storeAgg agg_366 rfl (by simp) (by simp [Value.cells]) (by simp) ?_
    simp [setRowH, Value.cells, setH_push_new]
    rw [wpH_loadAgg_eq agg_366 (by simp)]
    simp [hk0, hk1]
    exact Mod.push _ _
  · have hk' : k < 0 ∨ (¬ k < 0 ∧ 31 ≤ k) := by omega
    rcases hk' with h0 | ⟨h0, h8⟩
    · simp [h0, build_366_]
      refine wpH_storeAgg agg_366 rfl (by simp) (by simp [Value.cells]) (by simp) ?_
      simp [setRowH, Value.cells, setH_push_new]
      rw [wpH_loadAgg_eq agg_366 (by simp)]
      simp
      exact ⟨⟨_, _, ⟨⟨rfl, rfl⟩, fun _ => by omega⟩, by omega⟩, Mod.push _ _⟩
    · simp [h0, h8, build_366_]
      refine wpH_storeAgg agg_366 rfl (by simp) (by simp [Value.cells]) (by simp) ?_
      simp [setRowH, Value.cells, setH_push_new]
      rw [wpH_loadAgg_eq agg_366 (by simp)]
      simp
      exact ⟨⟨_, _, ⟨⟨rfl, rfl⟩, fun _ => by omega⟩, by omega⟩, Mod.push _ _⟩

/-- A ring's lock. -/
def ringOf (p n : Int) : Int := if p < 0 ∨ n ≤ p then -1 else p + 1
theorem mach_ring {p n : Int} (hn : n ≤ 2 ^ 60) : CallsH Tryz.prog 234 #[i64 p, i64 n] H fun u H' => u = i64 (ringOf p n) ∧ H' = H := by
  apply calls234
  unfold ringOf
  by_cases h0 : p < 0
  · simp [t234, h0]
  · by_cases h1 : n ≤ p
    · simp [t234, h0, h1]
    · have : IntKind.i64.wrap (p + 1) = p + 1 := wrap_i64 _ (by omega) (by omega)
      simp [t234, h0, h1, this]

/-- The lock of a machine at a place, with a processor and an index. -/
def lockOf (pl p i n : Int) : Int :=
  if ¬ (0 ≤ pl ∧ pl < 31) ∨ n < 1 then -1 else
  if whose pl.toNat = 1 then 0 else
  if whose pl.toNat = 5 then n + 1 else
  if whose pl.toNat = 2 then ringOf p n else
  if whose pl.toNat = 4 then ringOf i n else
  if whose pl.toNat = 3 then (if 0 ≤ i ∧ 0 < ringOf p n then (p + i.tmod n).tmod n + 1 else -1) else -1

theorem mach_lock {m : Array Value} {pl p i n : Int} (h : Glob gb H) (hm : m.size = 18) (hpl : m.getD 0 undef = i64 pl) (hp : m.getD 1 undef = i64 p) (hi : m.getD 6 undef = i64 i) (hn : n ≤ 2 ^ 60) :
    CallsH Tryz.prog 175 #[.agg m, i64 n] H fun u H' => u = i64 (lockOf pl p i n) ∧ Mod H H' [] := by
  apply calls175
  have hb0 : (H.push (.cells m 98 (0, 0)))[H.size]? = some (.cells m 98 (0, 0)) := get_push_new _ _
  simp [t175, Value.cells, blk_ok hb0, blk_cell hb0, hm, hpl, Nat.blt]
  refine (mach_of (h.push _)).mono ?_
  rintro _ H1 ⟨⟨nm, f, rfl, hf⟩, hm1⟩
  have hb1 := hm1.get hb0 (by simp)
  have hmod1 : Mod H H1 [] := (Mod.push _ _).trans hm1
  have hlt := blk_lt hb1
  simp
  rw [wpH_alloc zero_366]
  refine wpH_storeAgg agg_366 rfl (by simp) (by simp [Value.cells]) (by simp) ?_
  simp [setRowH, Value.cells, setH_push_new]
  have hb2 := get_push_old (x := .cells #[.string nm, i64 f] 366 (0, 0)) hb1
  have hmod2 : Mod H (H1.push (.cells #[.string nm, i64 f] 366 (0, 0))) [] := hmod1.trans (Mod.push _ _)
  unfold lockOf
  by_cases hk : 0 ≤ pl ∧ pl < 31
  · have hf' := hf hk.1 hk.2
    rw [← hf']
    have k0 : ¬ pl < 0 := by omega
    have k1 : ¬ 31 ≤ pl := by omega
    have k2 : ¬ (¬ (0 ≤ pl ∧ pl < 31) ∨ n < 1) ↔ 1 ≤ n := by omega
    by_cases hn1 : n < 1
    · simp [k0, k1, hn1]; exact hmod2
    · have hw : IntKind.i64.wrap (n + 1) = n + 1 := wrap_i64 _ (by omega) (by omega)
      simp [k0, k1, hn1, hk]
      by_cases e1 : f = 1
      · subst e1; simp; exact hmod2
      · by_cases e5 : f = 5
        · subst e5; simp [hw]; exact hmod2
        · by_cases e2 : f = 2
          · subst e2
            simp [blk_ok hb2, blk_cell hb2, hm, hp, Nat.blt]
            refine (mach_ring hn).mono ?_
            rintro _ _ ⟨rfl, rfl⟩
            simp; exact hmod2
          · by_cases e4 : f = 4
            · subst e4
              simp [blk_ok hb2, blk_cell hb2, hm, hi, Nat.blt]
              refine (mach_ring hn).mono ?_
              rintro _ _ ⟨rfl, rfl⟩
              simp; exact hmod2
            · by_cases e3 : f = 3
              · subst e3
                simp [blk_ok hb2, blk_cell hb2, hm, hi, hp, Nat.blt]
                by_cases hi0 : 0 ≤ i
                · simp [hi0]
                  refine (mach_ring hn).mono ?_
                  rintro _ _ ⟨rfl, rfl⟩
                  by_cases hr : 0 < ringOf p n
                  · have hp0 : 0 ≤ p ∧ p < n := by unfold ringOf at hr; split at hr <;> omega
                    have hn0 : n ≠ 0 := by omega
                    have b1 : 0 ≤ i.tmod n := Int.tmod_nonneg _ hi0
                    have b2 : i.tmod n < n := Int.tmod_lt_of_pos _ (by omega)
                    have hw2 : IntKind.i64.wrap (p + i.tmod n) = p + i.tmod n := wrap_i64 _ (by omega) (by omega)
                    have b3 : 0 ≤ (p + i.tmod n).tmod n := Int.tmod_nonneg _ (by omega)
                    have b4 : (p + i.tmod n).tmod n < n := Int.tmod_lt_of_pos _ (by omega)
                    have hw3 : IntKind.i64.wrap ((p + i.tmod n).tmod n + 1) = (p + i.tmod n).tmod n + 1 := wrap_i64 _ (by omega) (by omega)
                    simp [hr, blk_ok hb2, blk_cell hb2, hm, hi, hp, Nat.blt, dry_rem _ _ _ _ _ _ hn0, hw2, hw3]
                    exact hmod2
                  · simp [hr]; exact hmod2
                · simp [hi0]; exact hmod2
              · simp [e1, e2, e3, e4, e5]; exact hmod2
  · have hk' : pl < 0 ∨ 31 ≤ pl := by omega
    simp [hk']
    exact ⟨fun h1 h2 => absurd ⟨h1, h2⟩ hk, hmod2⟩
end

/-! ### status -/

abbrev tabV (f n : Int) : Value := .agg #[i64 f, i64 n]
section
variable {H : Heap} {gb b wb : Nat} {m : Mem} {f n g : Int}

theorem status_in : CallsH Tryz.prog 191 #[tabV f n, i64 g] H fun u H' => u = .bool (decide (0 ≤ g) && decide (g < n)) ∧ Mod H H' [] := by
  apply calls191
  by_cases h : 0 ≤ g
  · simp [t191, Value.cells, h]; exact Mod.push _ _
  · simp [t191, Value.cells, h]; exact Mod.push _ _

/-- What Move answers, and what it leaves. -/
def moves (m : Mem) (f n g a c : Int) : Bool := decide (0 ≤ g ∧ g < n) && (legal a c && decide (m.get (f + g) = a))
def moved (m : Mem) (f n g a c : Int) : Mem := if 0 ≤ g ∧ g < n ∧ legal a c = true then (if m.get (f + g) = a then m.tick.put (f + g) c else m.tick) else m

theorem status_move {a c : Int} (h : Glob gb H) (hm : MemAt H b wb m) (hf : 0 ≤ f) (hn : f + n ≤ m.W.length) (hl : m.W.length ≤ 2 ^ 40) (ha : 0 ≤ a) :
    CallsH Tryz.prog 159 #[tabV f n, ptr b, i64 g, u64 a, u64 c] H fun u H' => u = .bool (moves m f n g a c) ∧ MemTo H H' b wb (moved m f n g a c) := by
  apply calls159
  simp [t159, Value.cells]
  have hb0 : (H.push (.cells #[i64 f, i64 n] 186 (0, 0)))[H.size]? = some (.cells #[i64 f, i64 n] 186 (0, 0)) := get_push_new _ _
  rw [wpH_loadAgg_eq agg_186 (by simp)]
  simp
  refine status_in.mono ?_
  rintro _ H1 ⟨rfl, hm1⟩
  have hb1 := hm1.get hb0 (by simp)
  have hmod1 : Mod H H1 [] := (Mod.push _ _).trans hm1
  unfold moves moved
  by_cases hg : 0 ≤ g ∧ g < n
  · have hgl := (h.push (.cells #[i64 f, i64 n] 186 (0, 0))).of_mod hm1 (by simp)
    simp [hg]
    refine (legal_spec hgl ha).mono ?_
    rintro _ _ ⟨rfl, e⟩
    obtain rfl := e.symm
    by_cases hlg : legal a c = true
    · have hw : IntKind.i64.wrap (f + g) = f + g := wrap_i64 _ (by omega) (by omega)
      have hm2 : MemAt H1 b wb m := hm.of_mod hmod1 (by simp) (by simp)
      simp [hlg, blk_ok hb1, blk_cell hb1, hw, Nat.blt]
      by_cases he : m.get (f + g) = a
      · refine (swap_yes hm2 (by omega) (by omega) he).mono ?_
        rintro _ H2 ⟨rfl, hm3⟩
        simp [he]
        exact ⟨hm3.now, (hmod1.mono (by simp)).trans hm3.mod⟩
      · refine (swap_no hm2 (by omega) (by omega) he).mono ?_
        rintro _ H2 ⟨rfl, hm3⟩
        simp [he]
        exact ⟨hm3.now, (hmod1.mono (by simp)).trans hm3.mod⟩
    · simp [hlg]
      exact ⟨hm.of_mod hmod1 (by simp) (by simp), hmod1.mono (by simp)⟩
  · have hd : (decide (0 ≤ g) && decide (g < n)) = false := by simp; omega
    have hd2 : ¬ (0 ≤ g ∧ g < n ∧ legal a c = true) := fun h => hg ⟨h.1, h.2.1⟩
    simp only [hd, hd2]
    simp [hg]
    exact ⟨hm.of_mod hmod1 (by simp) (by simp), hmod1.mono (by simp)⟩

def sets (n g a : Int) : Bool := decide (0 ≤ g ∧ g < n ∧ a < 7)
theorem status_set {a : Int} (hm : MemAt H b wb m) (hf : 0 ≤ f) (hn : f + n ≤ m.W.length) (hl : m.W.length ≤ 2 ^ 40) :
    CallsH Tryz.prog 244 #[tabV f n, ptr b, i64 g, u64 a] H fun u H' => u = .bool (sets n g a) ∧ MemTo H H' b wb (if sets n g a then m.tick.put (f + g) a else m) := by
  apply calls244
  simp [t244, Value.cells]
  have hb0 : (H.push (.cells #[i64 f, i64 n] 186 (0, 0)))[H.size]? = some (.cells #[i64 f, i64 n] 186 (0, 0)) := get_push_new _ _
  rw [wpH_loadAgg_eq agg_186 (by simp)]
  simp
  refine status_in.mono ?_
  rintro _ H1 ⟨rfl, hm1⟩
  have hb1 := hm1.get hb0 (by simp)
  have hmod1 : Mod H H1 [] := (Mod.push _ _).trans hm1
  unfold sets
  by_cases hg : 0 ≤ g ∧ g < n
  · simp [hg]
    by_cases ha7 : a < 7
    · have hw : IntKind.i64.wrap (f + g) = f + g := wrap_i64 _ (by omega) (by omega)
      have hm2 : MemAt H1 b wb m := hm.of_mod hmod1 (by simp) (by simp)
      simp [ha7, blk_ok hb1, blk_cell hb1, hw, Nat.blt]
      refine (store_in hm2 (by omega) (by omega)).mono ?_
      rintro _ H2 ⟨rfl, hm3⟩
      simp
      exact ⟨hm3.now, (hmod1.mono (by simp)).trans hm3.mod⟩
    · have ha8 : ¬ (0 ≤ g ∧ g < n ∧ a < 7) := fun h => ha7 h.2.2
      simp [ha7]
      exact ⟨by omega, hm.of_mod hmod1 (by simp) (by simp), hmod1.mono (by simp)⟩
  · have hd : (decide (0 ≤ g) && decide (g < n)) = false := by simp; omega
    have hd2 : ¬ (0 ≤ g ∧ g < n ∧ a < 7) := fun h => hg ⟨h.1, h.2.1⟩
    simp only [hd, hd2]
    simp
    exact ⟨hm.of_mod hmod1 (by simp) (by simp), hmod1.mono (by simp)⟩

theorem status_of (hm : MemAt H b wb m) (hf : 0 ≤ f) (hn : f + n ≤ m.W.length) (hl : m.W.length ≤ 2 ^ 40) :
    CallsH Tryz.prog 124 #[tabV f n, ptr b, i64 g] H fun u H' => u = u64 (if 0 ≤ g ∧ g < n then m.get (f + g) else 0) ∧ MemTo H H' b wb (if 0 ≤ g ∧ g < n then m.tick else m) := by
  apply calls124
  simp [t124, Value.cells]
  have hb0 : (H.push (.cells #[i64 f, i64 n] 186 (0, 0)))[H.size]? = some (.cells #[i64 f, i64 n] 186 (0, 0)) := get_push_new _ _
  rw [wpH_loadAgg_eq agg_186 (by simp)]
  simp
  refine status_in.mono ?_
  rintro _ H1 ⟨rfl, hm1⟩
  have hb1 := hm1.get hb0 (by simp)
  have hmod1 : Mod H H1 [] := (Mod.push _ _).trans hm1
  by_cases hg : 0 ≤ g ∧ g < n
  · have hw : IntKind.i64.wrap (f + g) = f + g := wrap_i64 _ (by omega) (by omega)
    have hm2 : MemAt H1 b wb m := hm.of_mod hmod1 (by simp) (by simp)
    simp [hg, blk_ok hb1, blk_cell hb1, hw, Nat.blt]
    refine (load_in hm2 (by omega) (by omega)).mono ?_
    rintro _ H2 ⟨rfl, hm3⟩
    simp
    exact ⟨hm3.now, (hmod1.mono (by simp)).trans hm3.mod⟩
  · have hd : (decide (0 ≤ g) && decide (g < n)) = false := by simp; omega
    simp only [hd]
    simp [hg]
    exact ⟨hm.of_mod hmod1 (by simp) (by simp), hmod1.mono (by simp)⟩
end

end Go.Tr
