/- Package cell: the contracts of its functions, over a memory that lies in the heap. Conditions: the memory lies there; an index is one of its words, or is none. -/
import Derived.Test.YtgjafaheglnheaaGreatDoorHsFacts
import Derived.Test.YtgjafaheglnheaaGreatDoorHsHeap
import Derived.Test.YtgjafaheglnheaaGreatDoorHsTA
namespace Go.Tr
open Go.Proofs (Tryz.prog)

/-- A memory: its words, and how often they were asked. -/
structure Mem where
  W : List Int
  c : Int
def Mem.tick (m : Mem) : Mem := { m with c := IntKind.i64.wrap (m.c + 1) }
def Mem.put (m : Mem) (i : Int) (x : Int) : Mem := { m with W := m.W.set i.toNat x }
def Mem.get (m : Mem) (i : Int) : Int := m.W.getD i.toNat 0
@[simp] theorem Mem.tick_W (m : Mem) : m.tick.W = m.W := rfl
@[simp] theorem Mem.tick_get (m : Mem) (i : Int) : m.tick.get i = m.get i := rfl
@[simp] theorem Mem.put_len (m : Mem) (i x : Int) : (m.put i x).W.length = m.W.length := by simp [Mem.put]
/-- What Add leaves. -/
def Mem.plus (m : Mem) (i d : Int) : Int := IntKind.u64.wrap (m.get i + IntKind.u64.wrap d)

/-- A memory that lies in the heap. -/
structure MemAt (H : Heap) (b wb : Nat) (m : Mem) : Prop where
  hdr : ∃ c, Blk H b #[.slice (some ⟨wb, 0, none⟩) m.W.length c, i64 m.c] 202
  row : ∃ l : List Value, Blk H wb l.toArray 81 ∧ m.W.length ≤ l.length ∧ ∀ k, k < m.W.length → l.getD k undef = u64 (m.W.getD k 0)
  ne : b ≠ wb

/-- It is m' now, and nothing else has changed. -/
structure MemTo (H H' : Heap) (b wb : Nat) (m' : Mem) : Prop where
  now : MemAt H' b wb m'
  mod : Mod H H' [b, wb]

namespace MemAt
variable {H H' : Heap} {b wb : Nat} {m : Mem}
theorem of_mod (h : MemAt H b wb m) {S : List Nat} (d : Mod H H' S) (hb : b ∉ S) (hw : wb ∉ S) : MemAt H' b wb m := by
  obtain ⟨c, h1⟩ := h.hdr
  obtain ⟨l, h2, h3⟩ := h.row
  exact ⟨⟨c, d.get h1 hb⟩, ⟨l, d.get h2 hw, h3⟩, h.ne⟩
theorem push (h : MemAt H b wb m) (x : Obj) : MemAt (H.push x) b wb m := h.of_mod (Mod.push x []) (by simp) (by simp)
theorem tick (h : MemAt H b wb m) : MemAt (setH H b 1 (i64 (IntKind.i64.wrap (m.c + 1)))) b wb m.tick := by
  obtain ⟨c, h1⟩ := h.hdr
  obtain ⟨l, h2, h3⟩ := h.row
  exact ⟨⟨c, by rw [Blk, get_setH_self h1]; rfl⟩, ⟨l, by rw [Blk, get_setH_ne h.ne]; exact h2, h3⟩, h.ne⟩
theorem put (h : MemAt H b wb m) (i x : Int) (hi : i.toNat < m.W.length) : MemAt (setH H wb i.toNat (u64 x)) b wb (m.put i x) := by
  obtain ⟨c, h1⟩ := h.hdr
  obtain ⟨l, h2, h3, h4⟩ := h.row
  refine ⟨⟨c, by rw [Blk, get_setH_ne h.ne.symm, h1]; simp [Mem.put]⟩, ⟨l.set i.toNat (u64 x), by rw [Blk, get_setH_list h2], by simpa using h3, fun k hk => ?_⟩, h.ne⟩
  simp only [Mem.put_len] at hk
  have := h4 k hk
  by_cases e : i.toNat = k
  · subst e
    simp [Mem.put, List.getD_eq_getElem?_getD, hi, show i.toNat < l.length by omega]
  · simp [Mem.put, List.getD_eq_getElem?_getD, List.getElem?_set_ne e] at this ⊢
    exact this
theorem at_ (h : MemAt H b wb m) {i : Int} (h0 : 0 ≤ i) (hi : i < m.W.length) : cellD H wb i.toNat = u64 (m.get i) ∧ cellOk H wb i.toNat = true ∧ cellFree H wb i.toNat = true := by
  have hi' : i.toNat < m.W.length := by omega
  obtain ⟨l, h2, h3, h4⟩ := h.row
  refine ⟨?_, cellOk_list h2 (by omega), blk_free h2⟩
  rw [cellD_list h2]
  exact h4 _ hi'
theorem lt (h : MemAt H b wb m) : b < H.size ∧ wb < H.size := by
  obtain ⟨c, h1⟩ := h.hdr
  obtain ⟨l, h2, h3⟩ := h.row
  exact ⟨blk_lt h1, blk_lt h2⟩
end MemAt

theorem MemTo.trans {H H' H'' : Heap} {b wb : Nat} {m m' : Mem} (h : MemTo H H' b wb m) (k : MemTo H' H'' b wb m') : MemTo H H'' b wb m' := ⟨k.now, h.mod.trans k.mod⟩
theorem MemTo.push {H H' : Heap} {b wb : Nat} {m : Mem} {x : Obj} (k : MemTo (H.push x) H' b wb m) : MemTo H H' b wb m := ⟨k.now, (Mod.push x _).trans k.mod⟩

theorem len_spec {H : Heap} {b : Nat} {s : Option Addr} {n m : Nat} {c : Value} (hb : Blk H b #[.slice s n m, c] 202) :
    CallsH Tryz.prog 115 #[ptr b] H fun v H' => v = i64 n ∧ H' = H := by
  apply calls115
  simp [t115, blk_ok hb, blk_cell hb]

theorem at_in {H : Heap} {b wb : Nat} {m : Mem} {i : Int} (h : MemAt H b wb m) (h0 : 0 ≤ i) (h1 : i < m.W.length) :
    CallsH Tryz.prog 192 #[ptr b, i64 i] H fun v H' => v = .pointer (some ⟨wb, i.toNat, none⟩) ∧ H' = setH H b 1 (i64 (IntKind.i64.wrap (m.c + 1))) := by
  apply calls192
  have h0' : ¬ i < 0 := by omega
  have h1' : ¬ (m.W.length : Int) ≤ i := by omega
  obtain ⟨cp, hdr⟩ := h.hdr
  simp [t192, h0']
  refine (len_spec hdr).mono ?_
  rintro _ _ ⟨rfl, rfl⟩
  simp [blk_ok hdr, blk_cell hdr, blk_free hdr, h1', dry_indexA (sl_200) h0 h1]

theorem at_out {H : Heap} {b wb : Nat} {m : Mem} {i : Int} (h : MemAt H b wb m) (hi : i < 0 ∨ m.W.length ≤ i) :
    CallsH Tryz.prog 192 #[ptr b, i64 i] H fun v H' => v = .pointer none ∧ H' = H := by
  apply calls192
  by_cases h0 : i < 0
  · simp [t192, h0]
  · have h1 : (m.W.length : Int) ≤ i := by omega
    obtain ⟨cp, hdr⟩ := h.hdr
    simp [t192, h0]
    refine (len_spec hdr).mono ?_
    rintro _ _ ⟨rfl, rfl⟩
    simp [h1]

section
variable {H : Heap} {b wb : Nat} {m : Mem} {i : Int}
theorem MemAt.toTick (h : MemAt H b wb m) : MemTo H (setH H b 1 (i64 (IntKind.i64.wrap (m.c + 1)))) b wb m.tick := ⟨h.tick, Mod.setH _ _ _ (by simp)⟩
theorem MemAt.toPut (h : MemAt H b wb m) (x : Int) (hi : i.toNat < m.W.length) : MemTo H (setH H wb i.toNat (u64 x)) b wb (m.put i x) := ⟨h.put i x hi, Mod.setH _ _ _ (by simp)⟩

theorem load_in (h : MemAt H b wb m) (h0 : 0 ≤ i) (h1 : i < m.W.length) :
    CallsH Tryz.prog 131 #[ptr b, i64 i] H fun v H' => v = u64 (m.get i) ∧ MemTo H H' b wb m.tick := by
  apply calls131
  simp [t131]
  refine (at_in h h0 h1).mono ?_
  rintro _ _ ⟨rfl, rfl⟩
  obtain ⟨hv, hok, _⟩ := h.tick.at_ h0 h1
  simp only [Mem.tick_get] at hv
  simp [hok, hv]
  exact h.toTick

theorem store_in {x : Int} (h : MemAt H b wb m) (h0 : 0 ≤ i) (h1 : i < m.W.length) :
    CallsH Tryz.prog 290 #[ptr b, i64 i, u64 x] H fun v H' => v = .bool true ∧ MemTo H H' b wb (m.tick.put i x) := by
  apply calls290
  simp [t290]
  refine (at_in h h0 h1).mono ?_
  rintro _ _ ⟨rfl, rfl⟩
  obtain ⟨_, hok, hfr⟩ := h.tick.at_ h0 h1
  simp [hok, hfr]
  exact h.toTick.trans (h.tick.toPut x (by simp; omega))

theorem swap_yes {x y : Int} (h : MemAt H b wb m) (h0 : 0 ≤ i) (h1 : i < m.W.length) (he : m.get i = x) :
    CallsH Tryz.prog 217 #[ptr b, i64 i, u64 x, u64 y] H fun v H' => v = .bool true ∧ MemTo H H' b wb (m.tick.put i y) := by
  apply calls217
  simp [t217]
  refine (at_in h h0 h1).mono ?_
  rintro _ _ ⟨rfl, rfl⟩
  obtain ⟨hv, hok, hfr⟩ := h.tick.at_ h0 h1
  simp only [Mem.tick_get, he] at hv
  simp [hok, hfr, hv]
  exact h.toTick.trans (h.tick.toPut y (by simp; omega))

theorem swap_no {x y : Int} (h : MemAt H b wb m) (h0 : 0 ≤ i) (h1 : i < m.W.length) (he : m.get i ≠ x) :
    CallsH Tryz.prog 217 #[ptr b, i64 i, u64 x, u64 y] H fun v H' => v = .bool false ∧ MemTo H H' b wb m.tick := by
  apply calls217
  simp [t217]
  refine (at_in h h0 h1).mono ?_
  rintro _ _ ⟨rfl, rfl⟩
  obtain ⟨hv, hok, hfr⟩ := h.tick.at_ h0 h1
  simp only [Mem.tick_get] at hv
  have he' : (m.get i != x) = true := by simpa using he
  simp [hok, hv, he']
  exact h.toTick

theorem swap_out {x y : Int} (h : MemAt H b wb m) (hi : i < 0 ∨ m.W.length ≤ i) :
    CallsH Tryz.prog 217 #[ptr b, i64 i, u64 x, u64 y] H fun v H' => v = .bool false ∧ H' = H := by
  apply calls217
  simp [t217]
  refine (at_out h hi).mono ?_
  rintro _ _ ⟨rfl, rfl⟩
  simp

theorem add_in {d : Int} (h : MemAt H b wb m) (h0 : 0 ≤ i) (h1 : i < m.W.length) :
    CallsH Tryz.prog 240 #[ptr b, i64 i, i64 d] H fun v H' => v = u64 (m.plus i d) ∧ MemTo H H' b wb (m.tick.put i (m.plus i d)) := by
  apply calls240
  simp [t240]
  refine (at_in h h0 h1).mono ?_
  rintro _ _ ⟨rfl, rfl⟩
  obtain ⟨hv, hok, hfr⟩ := h.tick.at_ h0 h1
  simp only [Mem.tick_get] at hv
  simp [hok, hfr, hv]
  exact ⟨rfl, h.toTick.trans (h.tick.toPut _ (by simp; omega))⟩
end

/-! ### Locks, notes -/

abbrev lockV (n s : Int) : Value := .agg #[i64 n, i64 s]

section
variable {H : Heap} {b wb : Nat} {m : Mem} {n s : Int}
theorem take_lock (h : MemAt H b wb m) (h0 : 0 ≤ n) (h1 : n < m.W.length) :
    CallsH Tryz.prog 269 #[lockV n s, ptr b] H fun v H' => v = u64 (IntKind.u64.wrap (m.plus n 1 - 1)) ∧ MemTo H H' b wb (m.tick.put n (m.plus n 1)) := by
  apply calls269
  simp [t269, Value.cells]
  refine (add_in (h.push _) h0 h1).mono ?_
  rintro _ _ ⟨rfl, hm⟩
  simp
  exact hm.push

theorem ahead_lock {t : Int} (h : MemAt H b wb m) (h0 : 0 ≤ s) (h1 : s < m.W.length) :
    CallsH Tryz.prog 317 #[lockV n s, ptr b, u64 t] H fun v H' => v = u64 (IntKind.u64.wrap (t - m.get s)) ∧ MemTo H H' b wb m.tick := by
  apply calls317
  simp [t317, Value.cells]
  refine (load_in (h.push _) h0 h1).mono ?_
  rintro _ _ ⟨rfl, hm⟩
  simp
  exact hm.push

theorem held_lock {t : Int} (h : MemAt H b wb m) (h0 : 0 ≤ s) (h1 : s < m.W.length) :
    CallsH Tryz.prog 270 #[lockV n s, ptr b, u64 t] H fun v H' => v = .bool (IntKind.u64.wrap (t - m.get s) == 0) ∧ MemTo H H' b wb m.tick := by
  apply calls270
  simp [t270, Value.cells, wpH_loadAgg_eq agg_94]
  refine (ahead_lock (h.push _) h0 h1).mono ?_
  rintro _ _ ⟨rfl, hm⟩
  simp
  exact hm.push

theorem free_lock {t : Int} (h : MemAt H b wb m) (h0 : 0 ≤ s) (h1 : s < m.W.length) :
    CallsH Tryz.prog 271 #[lockV n s, ptr b, u64 t] H fun v H' => v = .bool (IntKind.u64.wrap (t - m.get s) == 0) ∧
      MemTo H H' b wb (if IntKind.u64.wrap (t - m.get s) = 0 then m.tick.tick.put s (IntKind.u64.wrap (t + 1)) else m.tick) := by
  apply calls271
  simp [t271, Value.cells, wpH_loadAgg_eq agg_94]
  refine (held_lock (h.push _) h0 h1).mono ?_
  rintro _ H1 ⟨rfl, hm⟩
  have hblk := hm.mod.get (get_push_new H (.cells #[i64 n, i64 s] 94 (0, 0))) (by have := h.lt; simp; omega)
  by_cases e : IntKind.u64.wrap (t - m.get s) = 0
  · simp [e, blk_ok hblk, blk_cell hblk]
    refine (store_in hm.now h0 (by simpa using h1)).mono ?_
    rintro _ H2 ⟨rfl, hm2⟩
    simp
    exact (hm.push).trans hm2
  · simp [e]
    exact hm.push

theorem wake_note {i : Int} (h : MemAt H b wb m) (h0 : 0 ≤ i) (h1 : i < m.W.length) :
    CallsH Tryz.prog 179 #[ptr b, i64 i] H fun v H' => v = .bool (m.get i == 0) ∧ MemTo H H' b wb (if m.get i = 0 then m.tick.put i 1 else m.tick) := by
  apply calls179
  simp [t179]
  by_cases e : m.get i = 0
  · refine (swap_yes h h0 h1 e).mono ?_
    rintro _ H2 ⟨rfl, hm2⟩
    simp [e]; exact hm2
  · refine (swap_no h h0 h1 e).mono ?_
    rintro _ H2 ⟨rfl, hm2⟩
    simp [e]; exact hm2
end

end Go.Tr
