/- Slices: what append, make and a literal do, told by the heap alone. General. Conditions: the slice lies at the head of a block of its own, or is nil; lengths are at most 2^36. -/
import Derived.Test.YtgjafaheglnheaaGreatDoorHsHeap
namespace Go.Tr

/-- What append asks of two slice types: the element's type, cells, bytes, zero. -/
def appT (P : Program) (t t2 : TypeId) : Option (TypeId × Nat × Nat × Array Value) := match P.underlying t, P.underlying t2 with
  | some (.slice e), some (.slice _) => match P.info? e with
    | some i => match i.zero with
      | some z => some (e, i.size, i.bytes, z.cells)
      | none => none
    | none => none
  | _, _ => none

/-- A slice reads as these cells (sz of them an element). -/
def Reads (H : Heap) (sz : Nat) (v : Value) (cells : List Value) : Prop :=
  (v = .slice none 0 0 ∧ cells = []) ∨ ∃ b o n c, v = .slice (some ⟨b, o, none⟩) n c ∧ cells.length = n * sz ∧ rowOk H b o (n * sz) = true ∧ (rowD H b o (n * sz)).toList = cells

/-- A slice at the head of a block of its own, or nil. -/
def Owns (H : Heap) (sz : Nat) (e : TypeId) (v : Value) (cells : List Value) : Prop :=
  (v = .slice none 0 0 ∧ cells = []) ∨ ∃ (b n c : Nat) (l : List Value), v = .slice (some ⟨b, 0, none⟩) n c ∧ cells.length = n * sz ∧ l.length = c * sz ∧ n ≤ c ∧ Blk H b l.toArray e ∧ l.take (n * sz) = cells

/-- The block of a slice. -/
def blkOf : Value → Option Nat
  | .slice (some a) _ _ => some a.block
  | _ => none
@[simp] theorem blkOf_nil (n c : Nat) : blkOf (.slice none n c) = none := rfl
@[simp] theorem blkOf_some (a : Addr) (n c : Nat) : blkOf (.slice (some a) n c) = some a.block := rfl

theorem Owns.reads {H : Heap} {sz : Nat} {e : TypeId} {v : Value} {cells : List Value} (h : Owns H sz e v cells) : Reads H sz v cells := by
  rcases h with h | ⟨b, n, c, l, hv, hl, hc, hn, hb, ht⟩
  · exact .inl h
  · have hle : n * sz ≤ l.length := by rw [hc]; exact Nat.mul_le_mul_right sz hn
    refine .inr ⟨b, 0, n, c, hv, hl, ?_, ?_⟩
    · rw [blk_rowOk hb]; exact Nat.ble_eq_true_of_le (by simpa using hle)
    · rw [blk_row hb]; simp [ht]

theorem Owns.lt {H : Heap} {sz : Nat} {e : TypeId} {v : Value} {cells : List Value} (h : Owns H sz e v cells) {b : Nat} (hb : blkOf v = some b) : b < H.size := by
  rcases h with ⟨rfl, _⟩ | ⟨b', n, c, l, rfl, _, _, _, hblk, _⟩
  · cases hb
  · cases hb; exact blk_lt hblk

theorem Owns.of_mod {H H' : Heap} {sz : Nat} {e : TypeId} {v : Value} {cells : List Value} (h : Owns H sz e v cells) {S : List Nat} (m : Mod H H' S) (hn : ∀ b, blkOf v = some b → b ∉ S) : Owns H' sz e v cells := by
  rcases h with h | ⟨b, n, c, l, rfl, h1, h2, h3, h4, h5⟩
  · exact .inl h
  · exact .inr ⟨b, n, c, l, rfl, h1, h2, h3, m.get h4 (hn b rfl), h5⟩

theorem Reads.of_mod {H H' : Heap} {sz : Nat} {v : Value} {cells : List Value} (h : Reads H sz v cells) {S : List Nat} (m : Mod H H' S) (hlt : ∀ b, blkOf v = some b → b < H.size ∧ b ∉ S) : Reads H' sz v cells := by
  rcases h with h | ⟨b, o, n, c, rfl, h1, h2, h3⟩
  · exact .inl h
  · obtain ⟨h4, h5⟩ := hlt b rfl
    have e := m.old b h4 h5
    exact .inr ⟨b, o, n, c, rfl, h1, by unfold rowOk at *; rw [e]; exact h2, by unfold rowD at *; rw [e]; exact h3⟩

/-- The length of a slice. -/
def lenV : Value → Nat
  | .slice _ n _ => n
  | _ => 0

theorem run_firstCells {P : Program} {w : World} {sz : Nat} {v : Value} {cells : List Value} (h : Reads w.heap sz v cells) {n : Nat} (hn : n = lenV v) : (Builtin.firstCells sz n v).run P w = .ok cells.toArray w := by
  subst hn
  rcases h with ⟨rfl, rfl⟩ | ⟨b, o, n, c, rfl, hl, hok, hd⟩
  · simp [Builtin.firstCells]
  · have h3 : (loadCells ⟨b, o, none⟩ (n * sz)).run P w = .ok (rowD w.heap b o (n * sz)) w := by
      unfold rowOk at hok
      split at hok
      · rename_i c e f hb
        have hle : o + n * sz ≤ c.size := Nat.le_of_ble_eq_true hok
        have := run_loadCells_list (P := P) (w := w) ⟨b, o, none⟩ (c.extract o (o + n * sz)).toList (by
          intro j v hj
          have hj' : (c.extract o (o + n * sz))[j]? = some v := by rw [← Array.getElem?_toList]; exact hj
          rw [Array.getElem?_extract] at hj'
          split at hj'
          · rename_i hlt
            rw [add_none]
            unfold World.cell?
            simp only [hb]
            simpa using hj'
          · cases hj')
        have hlen : (c.extract o (o + n * sz)).toList.length = n * sz := by simp; omega
        rw [hlen] at this
        rw [this, rowD, hb]
      · cases hok
    simp [Builtin.firstCells, lenV, h3, ← hd]

/-- A row written into the middle of a list. -/
def splice (l : List Value) (o : Nat) (vs : List Value) : List Value := l.take o ++ vs ++ l.drop (o + vs.length)

theorem get_setRowH {vs : List Value} : ∀ {H : Heap} {b o : Nat} {l : List Value} {e : TypeId} {f : Nat × Nat}, H[b]? = some (.cells l.toArray e f) → o + vs.length ≤ l.length →
    (setRowH H b o vs)[b]? = some (.cells (splice l o vs).toArray e f) := by
  induction vs with
  | nil => intro H b o l e f h _; simp [setRowH, splice, h]
  | cons v vs ih =>
    intro H b o l e f h hl
    simp only [List.length_cons] at hl
    unfold setRowH
    have h1 := get_setH_list (i := o) (v := v) h
    rw [ih h1 (by simp; omega)]
    refine congrArg (fun l : List Value => some (Obj.cells l.toArray e f)) ?_
    obtain ⟨a, x, c, rfl, ha⟩ : ∃ (a : List Value) (x : Value) (c : List Value), l = a ++ x :: c ∧ a.length = o := by
      refine ⟨l.take o, l[o]'(by omega), l.drop (o + 1), ?_, by simp; omega⟩
      rw [List.getElem_cons_drop, List.take_append_drop]
    subst ha
    have e1 : (a ++ x :: c).set a.length v = a ++ v :: c := by simp
    have e2 : List.take (a.length + 1) (a ++ v :: c) = a ++ [v] := by rw [List.take_append, List.take_of_length_le (by omega), Nat.add_sub_cancel_left]; simp
    have e3 : List.drop (a.length + 1 + vs.length) (a ++ v :: c) = c.drop vs.length := by
      rw [List.drop_append, List.drop_of_length_le (by omega), Nat.add_assoc, Nat.add_sub_cancel_left, Nat.add_comm 1]
      simp
    have e4 : List.drop (a.length + (vs.length + 1)) (a ++ x :: c) = c.drop vs.length := by
      rw [List.drop_append, List.drop_of_length_le (by omega), Nat.add_sub_cancel_left]
      simp
    unfold splice
    rw [e1, e2, e3, List.length_cons, e4]
    simp

theorem keeps_trans_heap {w w' : World} (h : Keeps w w') : Keeps w w' := h

section
variable {P : Program} {Q : List Value → Heap → Prop} {R : Option Nat → List Value → Heap → Prop} {H : Heap}

/-- What append leaves: all in the old block, or in a new one. -/
structure AppTo (H H' : Heap) (sz : Nat) (e : TypeId) (v v' : Value) (xn : Nat) (cells : List Value) : Prop where
  owns : Owns H' sz e v' cells
  mod : Mod H H' (blkOf v).toList
  blk : blkOf v' = blkOf v ∨ blkOf v' = some H.size
  nil : cells = [] → v = .slice none 0 0 → v' = .slice none 0 0
  len : lenV v' * sz = cells.length
  fit : ∀ a n c, v = .slice a n c → n + xn ≤ c → v' = .slice a (n + xn) c

theorem wpH_appendW {ws : List (N × Value)} {t t2 ty e : TypeId} {sz by_ : Nat} {z : Array Value} {cs : Array Bool} {v x : Value} {xs ys : List Value} {k : Value → T} (ht : appT P t t2 = some (e, sz, by_, z)) (hsz : 0 < sz) (hby : by_ ≤ 1024) (hzs : z.size = sz)
    (ho : Owns H sz e v xs) (hr : Reads H sz x ys) (hone : ∀ u ∈ ys, oneV u = true) (hlen : lenV v + lenV x ≤ 2 ^ 36)
    (hk : ∀ v' H', AppTo H H' sz e v v' (lenV x) (xs ++ ys) → Held P ws H' ∧ wpH P Q (k v') R H') :
    wpH P Q (.op ws (.builtin .append #[t, t2] ty cs #[v, x]) k) R H := by
  intro w hw
  subst hw
  unfold appT at ht
  split at ht
  case h_2 => cases ht
  rename_i e' e2 hu1 hu2
  split at ht
  case h_2 => cases ht
  rename_i info hi
  split at ht
  case h_2 => cases ht
  rename_i zv hz
  simp only [Option.some.injEq, Prod.mk.injEq] at ht
  obtain ⟨rfl, hs, hb, hzc⟩ := ht
  have hxl : ∃ a xn xc, x = .slice a xn xc := by
    rcases hr with ⟨rfl, _⟩ | ⟨b, o, n, c, rfl, _⟩ <;> exact ⟨_, _, _, rfl⟩
  obtain ⟨xa, xn, xc, rfl⟩ := hxl
  have hfx := run_firstCells (P := P) hr (n := xn) rfl
  have hys : ys.length = xn * sz := by
    rcases hr with ⟨h, rfl⟩ | ⟨b, o, n, c, h, hl, _⟩
    · cases h; simp
    · cases h; exact hl
  -- the two ways
  have fits : ∀ (b n c : Nat) (l : List Value), v = .slice (some ⟨b, 0, none⟩) n c → xs.length = n * sz → l.length = c * sz → n ≤ c → Blk w.heap b l.toArray e' → l.take (n * sz) = xs → n + xn ≤ c →
      okNext P w (fun v' H' => Held P ws H' ∧ wpH P Q (k v') R H') ((N.builtin .append #[t, t2] ty cs #[v, .slice xa xn xc]).sem.run P w) := by
    rintro b n c l rfl hl hc hn hblk htk hfit
    have hspan : n * sz + ys.length ≤ l.length := by
      rw [hys, hc, ← Nat.add_mul]; exact Nat.mul_le_mul_right sz hfit
    obtain ⟨w', hw', hkp, hh⟩ := run_storeCells (P := P) (vs := ys) (b := b) (o := n * sz) (j := 0) (w := w) hone fun i _ hi => by
      refine ⟨cellOk_list hblk (by omega), blk_free hblk⟩
    have hrun : (N.builtin .append #[t, t2] ty cs #[.slice (some ⟨b, 0, none⟩) n c, .slice xa xn xc]).sem.run P w = .ok (.value (.slice (some ⟨b, 0, none⟩) (n + xn) c)) w' := by
      simp [N.sem, Go.builtin, Builtin.append_, underlying, hu1, hu2, sizeOf, typeInfo, hi, hs, Builtin.lenOf, hfit, hfx, add_none]
      simp only [Nat.zero_add, hw', Result.andThen_ok]
    rw [hrun]
    have hown : Owns w'.heap sz e' (.slice (some ⟨b, 0, none⟩) (n + xn) c) (xs ++ ys) := by
      refine .inr ⟨b, n + xn, c, splice l (n * sz) ys, rfl, by simp [hl, hys, Nat.add_mul], ?_, hfit, ?_, ?_⟩
      · unfold splice; simp; omega
      · rw [Blk, hh, Nat.add_zero]; exact get_setRowH hblk hspan
      · unfold splice
        rw [htk, Nat.add_mul, ← hys, ← hl, List.take_left' (by simp)]
    refine ⟨hkp, hk _ _ ⟨hown, ?_, .inl rfl, (fun _ hv => by cases hv), ?_, ?_⟩⟩
    · rw [hh]; exact Mod.setRowH _ _ (by simp)
    · simp [lenV, Nat.add_mul, hl, hys]
    · intro a n' c' hv _; cases hv; rfl
  have grows : ∀ (a : Option Addr) (n c : Nat), v = .slice a n c → xs.length = n * sz → Reads w.heap sz v xs → c < n + xn →
      okNext P w (fun v' H' => Held P ws H' ∧ wpH P Q (k v') R H') ((N.builtin .append #[t, t2] ty cs #[v, .slice xa xn xc]).sem.run P w) := by
    rintro a n c rfl hl hrd hgr
    have hfv := run_firstCells (P := P) hrd (n := n) rfl
    simp only [lenV] at hlen
    have hcap : Builtin.nextslicecap (n + xn) c ≤ 2 * (n + xn) + 100000 := by
      unfold Builtin.nextslicecap
      split
      · omega
      · split
        · omega
        · simp only [Builtin.growBy]
          repeat' split
          all_goals omega
    have hnot : ¬ (Builtin.nextslicecap (n + xn) c * info.bytes > 2 ^ 48) := by
      have h1 : Builtin.nextslicecap (n + xn) c * info.bytes ≤ (2 * (n + xn) + 100000) * 1024 := Nat.mul_le_mul hcap (by omega)
      have h2 : (2 * (n + xn) + 100000) * 1024 ≤ 2 ^ 48 := by omega
      omega
    have hmax : ¬ ((n + xn : Nat) : Int) > IntKind.i64.max := by
      have : IntKind.i64.max = 9223372036854775807 := rfl
      omega
    obtain ⟨nc, hncd, hnc⟩ : ∃ nc, nc = (Question.appendCap (n + xn) c e').cut (w.tape w.drawn (.appendCap (n + xn) c e')) ∧ n + xn ≤ nc := by
      refine ⟨_, rfl, ?_⟩
      simp only [Question.cut]
      omega
    have hfo : (Question.appendCap (n + xn) c e').forced = false := rfl
    have hfv1 := run_firstCells (P := P) (w := w.drew) hrd (n := n) rfl
    have hfx1 := run_firstCells (P := P) (w := w.drew) hr (n := xn) rfl
    have hnf : ¬ (n + xn ≤ c) := by omega
    have hrun : ∃ rest : Array Value, rest.size = (nc - (n + xn)) * sz ∧ (N.builtin .append #[t, t2] ty cs #[.slice a n c, .slice xa xn xc]).sem.run P w =
        .ok (.value (.slice (some ⟨w.heap.size, 0, none⟩) (n + xn) nc)) { w.drew with heap := w.heap.push (.cells (xs.toArray ++ ys.toArray ++ rest) e') } := by
      refine ⟨Builtin.zeroCells zv.cells (nc - (n + xn)), ?_, ?_⟩
      · simp [Builtin.zeroCells, hzc, hzs]
      · have hmax' : ¬ (9223372036854775807 < (n : Int) + (xn : Int) ∧ info.bytes = 0) := by
          intro h; have := h.1; omega
        have hnot' : ¬ (281474976710656 < Builtin.nextslicecap (n + xn) c * info.bytes) := hnot
        simp [N.sem, Go.builtin, Builtin.append_, underlying, hu1, hu2, sizeOf, typeInfo, hi, hs, Builtin.lenOf, hnf, hmax', hnot', hfo, ← hncd, hfv1, hfx1, newRow, zeroValue, hz]
        have e9 : xs.toArray ++ (ys.toArray ++ Builtin.zeroCells zv.cells (nc - (n + xn))) = (xs ++ ys).toArray ++ Builtin.zeroCells zv.cells (nc - (n + xn)) := by rw [← Array.append_assoc]; simp
        rw [e9]
        rfl
    obtain ⟨rest, hrs, hrun⟩ := hrun
    rw [hrun]
    have hblk : Blk (w.heap.push (.cells (xs.toArray ++ ys.toArray ++ rest) e')) w.heap.size (xs ++ ys ++ rest.toList).toArray e' := by
      rw [Blk]; simp
    have hown : Owns (w.heap.push (.cells (xs.toArray ++ ys.toArray ++ rest) e')) sz e' (.slice (some ⟨w.heap.size, 0, none⟩) (n + xn) nc) (xs ++ ys) := by
      refine .inr ⟨_, n + xn, nc, xs ++ ys ++ rest.toList, rfl, by simp [hl, hys, Nat.add_mul], ?_, hnc, hblk, ?_⟩
      · simp [hl, hys, hrs]
        rw [← Nat.add_mul, ← Nat.add_mul]
        congr 1; omega
      · rw [Nat.add_mul, ← hl, ← hys, ← List.length_append, List.take_left']
        rfl
    refine ⟨⟨rfl, rfl, rfl⟩, hk _ _ ⟨hown, ?_, .inr rfl, fun h hv => ?_, ?_, ?_⟩⟩
    · exact Mod.push _ _
    · cases hv
      have : ys.length = 0 := by simp at h; simp [h]
      rw [hys] at this
      rcases Nat.mul_eq_zero.1 this with h0 | h0 <;> omega
    · simp [lenV, Nat.add_mul, hl, hys]
    · intro a' n' c' hv hle; cases hv; simp only [lenV] at hle; omega
  rcases ho with ⟨rfl, rfl⟩ | ⟨b, n, c, l, rfl, hl, hc, hn, hblk, htk⟩
  · by_cases hx0 : xn = 0
    · subst hx0
      have hy0 : ys = [] := List.eq_nil_of_length_eq_zero (by simpa using hys)
      subst hy0
      have hrun : (N.builtin .append #[t, t2] ty cs #[.slice none 0 0, .slice xa 0 xc]).sem.run P w = .ok (.value (.slice none 0 0)) w := by
        simp [N.sem, Go.builtin, Builtin.append_, underlying, hu1, hu2, sizeOf, typeInfo, hi, hs, Builtin.lenOf, hfx]
      rw [hrun]
      exact ⟨Keeps.refl _, hk _ _ ⟨.inl ⟨rfl, rfl⟩, Mod.refl _ _, .inl rfl, fun _ _ => rfl, by simp [lenV], fun a n c hv _ => by cases hv; rfl⟩⟩
    · exact grows none 0 0 rfl (by simp) (.inl ⟨rfl, rfl⟩) (by omega)
  · by_cases hfit : n + xn ≤ c
    · exact fits b n c l rfl hl hc hn hblk htk hfit
    · exact grows _ n c rfl hl (Owns.reads (.inr ⟨b, n, c, l, rfl, hl, hc, hn, hblk, htk⟩)) (by omega)

theorem wpH_append {t t2 ty e : TypeId} {sz by_ : Nat} {z : Array Value} {cs : Array Bool} {v x : Value} {xs ys : List Value} {k : Value → T} (ht : appT P t t2 = some (e, sz, by_, z)) (hsz : 0 < sz) (hby : by_ ≤ 1024) (hzs : z.size = sz)
    (ho : Owns H sz e v xs) (hr : Reads H sz x ys) (hone : ∀ u ∈ ys, oneV u = true) (hlen : lenV v + lenV x ≤ 2 ^ 36)
    (hk : ∀ v' H', AppTo H H' sz e v v' (lenV x) (xs ++ ys) → wpH P Q (k v') R H') :
    wpH P Q (.op [] (.builtin .append #[t, t2] ty cs #[v, x]) k) R H :=
  wpH_appendW ht hsz hby hzs ho hr hone hlen fun v' H' h => ⟨held_nil _ _, hk v' H' h⟩

end
end Go.Tr
