/- What a call may have changed: blocks named, all others as they were. General. -/
import Derived.Test.YtgjafaheglnheaaGreatDoorHsLaws
namespace Go.Tr

/-- All blocks but those named are as they were; none is gone. -/
structure Mod (H H' : Heap) (S : List Nat) : Prop where
  size : H.size ≤ H'.size
  old : ∀ k, k < H.size → k ∉ S → H'[k]? = H[k]?

theorem Mod.refl (H : Heap) (S : List Nat) : Mod H H S := ⟨Nat.le_refl _, fun _ _ _ => rfl⟩
theorem Mod.trans {H H' H'' : Heap} {S : List Nat} (h : Mod H H' S) (k : Mod H' H'' S) : Mod H H'' S :=
  ⟨Nat.le_trans h.size k.size, fun i hi hn => (k.old i (Nat.lt_of_lt_of_le hi h.size) hn).trans (h.old i hi hn)⟩
theorem Mod.mono {H H' : Heap} {S S' : List Nat} (h : Mod H H' S) (hs : ∀ k ∈ S, k ∈ S') : Mod H H' S' := ⟨h.size, fun i hi hn => h.old i hi fun hm => hn (hs i hm)⟩
theorem Mod.get {H H' : Heap} {S : List Nat} (h : Mod H H' S) {k : Nat} {x : Obj} (hk : H[k]? = some x) (hn : k ∉ S) : H'[k]? = some x := (h.old k (blk_lt hk) hn).trans hk
theorem Mod.setH {H : Heap} (b o : Nat) (v : Value) {S : List Nat} (hb : b ∈ S) : Mod H (setH H b o v) S :=
  ⟨by simp, fun k _ hn => get_setH_ne fun e => hn (e ▸ hb)⟩
theorem Mod.push {H : Heap} (x : Obj) (S : List Nat) : Mod H (H.push x) S :=
  ⟨by simp, fun k hk _ => by rw [Array.getElem?_push, if_neg (by omega)]⟩
theorem Mod.setRowH {vs : List Value} : ∀ {H : Heap} (b o : Nat) {S : List Nat}, b ∈ S → Mod H (setRowH H b o vs) S := by
  induction vs with
  | nil => intro H b o S _; exact Mod.refl _ _
  | cons v vs ih => intro H b o S hb; exact (Mod.setH b o v hb).trans (ih b (o + 1) hb)
/-- What lies behind the old end of the heap may be left out of the list. -/
theorem Mod.drop {H H' : Heap} {S S' : List Nat} (h : Mod H H' S) (hs : ∀ k ∈ S, k < H.size → k ∈ S') : Mod H H' S' :=
  ⟨h.size, fun i hi hn => h.old i hi fun hm => hn (hs i hm hi)⟩

theorem Mod.behind {H H' H'' : Heap} {S S' : List Nat} (h : Mod H H' S) (k : Mod H' H'' S') (hs : ∀ i ∈ S', i < H.size → i ∈ S) : Mod H H'' S :=
  ⟨Nat.le_trans h.size k.size, fun i hi hn => (k.old i (Nat.lt_of_lt_of_le hi h.size) fun hm => hn (hs i hm hi)).trans (h.old i hi hn)⟩

theorem get_push_new (H : Heap) (x : Obj) : (H.push x)[H.size]? = some x := by simp
theorem get_push_old {H : Heap} {k : Nat} {x y : Obj} (h : H[k]? = some y) : (H.push x)[k]? = some y := by
  have := blk_lt h
  rw [Array.getElem?_push, if_neg (by omega)]; exact h

/-- A list of values as the head of a block. -/
theorem cellD_list {H : Heap} {b : Nat} {l : List Value} {e : TypeId} {f : Nat × Nat} (h : H[b]? = some (.cells l.toArray e f)) (i : Nat) : cellD H b i = l.getD i undef := by
  simp [cellD, h]
theorem cellOk_list {H : Heap} {b : Nat} {l : List Value} {e : TypeId} {f : Nat × Nat} (h : H[b]? = some (.cells l.toArray e f)) {i : Nat} (hi : i < l.length) : cellOk H b i = true := by
  simp only [cellOk, h, List.size_toArray]; exact Nat.ble_eq_true_of_le hi
theorem get_setH_list {H : Heap} {b i : Nat} {l : List Value} {v : Value} {e : TypeId} {f : Nat × Nat} (h : H[b]? = some (.cells l.toArray e f)) :
    (setH H b i v)[b]? = some (.cells (l.set i v).toArray e f) := by
  rw [get_setH_self h]; simp

abbrev u64 (n : Int) : Value := .int .u64 n
abbrev i64 (n : Int) : Value := .int .i64 n
abbrev ptr (b : Nat) : Value := .pointer (some ⟨b, 0, none⟩)

end Go.Tr
