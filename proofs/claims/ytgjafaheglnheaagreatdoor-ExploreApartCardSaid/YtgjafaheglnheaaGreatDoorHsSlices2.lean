/- Slices: cutting, making, clearing, a literal, held against nil. General. Conditions: the bounds hold. -/
import Derived.Test.YtgjafaheglnheaaGreatDoorHsSlices
namespace Go.Tr

section
variable {P : Program} {Q : List Value → Heap → Prop} {R : Option Nat → List Value → Heap → Prop} {H : Heap}

@[simp] theorem dry_slice_nil {t : TypeId} {xo yo : Operand} {a : Option Addr} {n c : Nat} (h : lenT P t = true) :
    dry P (N.bin .eql t xo yo (.slice a n c) (.slice none 0 0)).sem = some (.value (.bool a.isNone)) := by
  have hq : dry P (Op.equal t (.slice a n c) (.slice none 0 0)) = some a.isNone := by
    unfold lenT at h
    split at h
    · rename_i e hu
      have e3 : ∀ d, dry P (Op.equalIn (d + 1) t (.slice a n c) (.slice none 0 0)) = some a.isNone := fun d => by
        unfold Op.equalIn
        cases a <;> simp [dry, Pure.pure, dry_bind, underlying, program, hu]
      exact e3 9999
    · cases h
  simp only [N.sem, dry_bind]
  have e1 : eqGuard .eql t xo yo (.slice a n c) (.slice none 0 0) = Pure.pure () := rfl
  have e2 : binOp .eql t (.slice a n c) (.slice none 0 0) = (do pure (Value.bool (← Op.equal t (.slice a n c) (.slice none 0 0)))) := rfl
  rw [e1, e2]
  simp [dry, Pure.pure, dry_bind, hq]

theorem dry_bound {k : IntKind} {i : Int} {y : Nat} {code : BoundsCode} (h0 : 0 ≤ i) (h1 : i ≤ y) : dry P (Instr.sliceBound (.int k i) y code) = some i.toNat := by
  simp [Instr.sliceBound, asIntOf, dry_bind, dry, Pure.pure, h0, h1]

theorem addr_map_zero (a : Option Addr) : a.map (·.add 0) = a := by cases a <;> simp [Addr.add]

/-- x[:h] -/
theorem dry_cut_hi {t : TypeId} {sz n c : Nat} {a : Option Addr} {k : IntKind} {i : Int} (h : sliceT P t = some sz) (h0 : 0 ≤ i) (h1 : i ≤ c) :
    dry P (N.slice t (.slice a n c) none (some (.int k i)) none).sem = some (.value (.slice a i.toNat c)) := by
  unfold sliceT at h
  split at h
  · rename_i e hu
    obtain ⟨info, hi, hs⟩ := Option.map_eq_some_iff.1 h
    have e1 : dry P (Instr.sliceBounds true n c none (some (.int k i)) none) = some (0, i.toNat, c) := by
      simp [Instr.sliceBounds, dry_bind, dry, Pure.pure, dry_bound h0 h1]
    simp only [N.sem, dry_bind, Instr.sliceAt, Instr.slice]
    simp [dry_bind, dry, Pure.pure, underlying, program, hu, e1, sizeOf, typeInfo, hi, hs]
    by_cases hc : c = 0
    · simp [hc]
    · cases a <;> simp [Addr.add]
  · cases h

/-- x[l:] -/
theorem dry_cut_lo {t : TypeId} {sz n c : Nat} {a : Option Addr} {k : IntKind} {i : Int} (h : sliceT P t = some sz) (h0 : 0 ≤ i) (h1 : i ≤ n) :
    dry P (N.slice t (.slice a n c) (some (.int k i)) none none).sem = some (.value (.slice (if c = i.toNat then a else a.map (·.add (i.toNat * sz))) (n - i.toNat) (c - i.toNat))) := by
  unfold sliceT at h
  split at h
  · rename_i e hu
    obtain ⟨info, hi, hs⟩ := Option.map_eq_some_iff.1 h
    have e1 : dry P (Instr.sliceBounds true n c (some (.int k i)) none none) = some (i.toNat, n, c) := by
      simp [Instr.sliceBounds, dry_bind, dry, Pure.pure, dry_bound h0 h1]
    simp only [N.sem, dry_bind, Instr.sliceAt, Instr.slice]
    simp [dry_bind, dry, Pure.pure, underlying, program, hu, e1, sizeOf, typeInfo, hi, hs]
  · cases h

/-- x[l:h] -/
theorem dry_cut_lohi {t : TypeId} {sz n c : Nat} {a : Option Addr} {k k' : IntKind} {i j : Int} (h : sliceT P t = some sz) (h0 : 0 ≤ i) (h1 : i ≤ j) (h2 : j ≤ c) :
    dry P (N.slice t (.slice a n c) (some (.int k i)) (some (.int k' j)) none).sem = some (.value (.slice (if c = i.toNat then a else a.map (·.add (i.toNat * sz))) (j.toNat - i.toNat) (c - i.toNat))) := by
  unfold sliceT at h
  split at h
  · rename_i e hu
    obtain ⟨info, hi, hs⟩ := Option.map_eq_some_iff.1 h
    have e1 : dry P (Instr.sliceBounds true n c (some (.int k i)) (some (.int k' j)) none) = some (i.toNat, j.toNat, c) := by
      simp [Instr.sliceBounds, dry_bind, dry, Pure.pure, dry_bound (show 0 ≤ j by omega) h2, dry_bound h0 (show i ≤ (j.toNat : Int) by omega)]
    simp only [N.sem, dry_bind, Instr.sliceAt, Instr.slice]
    simp [dry_bind, dry, Pure.pure, underlying, program, hu, e1, sizeOf, typeInfo, hi, hs]
  · cases h

/-- x[i:j:m] -/
theorem dry_cut3 {t : TypeId} {sz n c : Nat} {a : Option Addr} {k k' k'' : IntKind} {i j m : Int} (h : sliceT P t = some sz) (h0 : 0 ≤ i) (h1 : i ≤ j) (h2 : j ≤ m) (h3 : m ≤ c) :
    ∃ v, dry P (N.slice t (.slice a n c) (some (.int k i)) (some (.int k' j)) (some (.int k'' m))).sem = some (.value v) := by
  unfold sliceT at h
  split at h
  · rename_i e hu
    obtain ⟨info, hi, hs⟩ := Option.map_eq_some_iff.1 h
    have e1 : dry P (Instr.sliceBounds true n c (some (.int k i)) (some (.int k' j)) (some (.int k'' m))) = some (i.toNat, j.toNat, m.toNat) := by
      simp [Instr.sliceBounds, dry_bind, dry, Pure.pure, dry_bound (show 0 ≤ m by omega) h3, dry_bound (show 0 ≤ j by omega) (show j ≤ (m.toNat : Int) by omega), dry_bound h0 (show i ≤ (j.toNat : Int) by omega)]
    simp only [N.sem, dry_bind, Instr.sliceAt, Instr.slice]
    simp [dry_bind, dry, Pure.pure, underlying, program, hu, e1, sizeOf, typeInfo, hi, hs]
  · cases h

theorem wrap_i64 (n : Int) (h0 : -9223372036854775808 ≤ n) (h1 : n ≤ 9223372036854775807) : IntKind.i64.wrap n = n := by
  unfold IntKind.wrap
  simp [IntKind.bits, IntKind.signed]
  omega

/-- What make asks of a slice type. -/
def makeT (P : Program) (t : TypeId) : Option (TypeId × Nat × Value) := match P.underlying t with
  | some (.slice e) => match P.info? e with
    | some i => match i.zero with
      | some z => if Nat.beq i.size 1 && Nat.beq z.cells.size 1 then some (e, i.bytes, z) else none
      | none => none
    | none => none
  | _ => none

/-- make([]T, l, n), T of one cell. -/
theorem wpH_makeCapW {ws : List (N × Value)} {t e : TypeId} {by_ : Nat} {z z1 : Value} {l n : Int} {k : Value → T} (ht : makeT P t = some (e, by_, z)) (hz1 : z.cells = #[z1]) (hby : by_ ≤ 1024) (hl0 : 0 ≤ l) (hln : l ≤ n) (h1 : n ≤ 2 ^ 30)
    (hw : Held P ws (H.push (.cells (List.replicate n.toNat z1).toArray e (0, 0)))) (hk : wpH P Q (k (.slice (some ⟨H.size, 0, none⟩) l.toNat n.toNat)) R (H.push (.cells (List.replicate n.toNat z1).toArray e (0, 0)))) :
    wpH P Q (.op ws (.mkSlice t (.int .i64 l) (.int .i64 n)) k) R H := by
  intro w hw'
  subst hw'
  unfold makeT at ht
  split at ht
  case h_2 => cases ht
  rename_i e' hu
  split at ht
  case h_2 => cases ht
  rename_i info hi
  split at ht
  case h_2 => cases ht
  rename_i zv hz
  split at ht
  case isFalse => cases ht
  rename_i hs
  rw [Bool.and_eq_true] at hs
  have hs1 := Nat.eq_of_beq_eq_true hs.1
  simp only [Option.some.injEq, Prod.mk.injEq] at ht
  obtain ⟨rfl, rfl, rfl⟩ := ht
  have h0 : 0 ≤ n := by omega
  have hwl : IntKind.i64.wrap l = l := wrap_i64 l (by omega) (by omega)
  have hwr : IntKind.i64.wrap n = n := wrap_i64 n (by omega) (by omega)
  have hbytes : (info.bytes : Int) * n ≤ 2 ^ 48 := by
    have : (info.bytes : Int) * n ≤ 1024 * 2 ^ 30 := Int.mul_le_mul (by omega) h1 h0 (by omega)
    omega
  have hnl : ¬ (281474976710656 < (info.bytes : Int) * n) := by omega
  have harr : (Array.range (n.toNat * info.size)).map (fun i => zv.cells[i % zv.cells.size]!) = (List.replicate n.toNat z1).toArray := by
    rw [hs1, Nat.mul_one, hz1]
    apply Array.ext
    · simp
    · intro i h1 h2
      simp [Nat.mod_one]
  have hrun : (N.mkSlice t (.int .i64 l) (.int .i64 n)).sem.run P w = .ok (.value (.slice (some ⟨w.heap.size, 0, none⟩) l.toNat n.toNat)) { w with heap := w.heap.push (.cells (List.replicate n.toNat z1).toArray e' (0, 0)) } := by
    simp only [N.sem, Instr.makeSlice, Sem.run_bind]
    have hn0 : ¬ n < 0 := by omega
    have hl0' : ¬ l < 0 := by omega
    have hln' : ¬ n < l := by omega
    have e0 : ∀ f : Nat → Value, Array.map f (Array.range 0) = #[] := fun f => by apply Array.ext <;> simp
    by_cases hzz : n.toNat = 0
    · have hn : n = 0 := by omega
      have hll : l = 0 := by omega
      subst hn
      subst hll
      simp [underlying, hu, asInt, asIntOf, typeInfo, hi, hwr, newRow, sizeOf, e0]
    · simp [underlying, hu, asInt, asIntOf, typeInfo, hi, hwr, hwl, hl0', hln', hn0, hnl, newRow, sizeOf, hs1, hzz, zeroValue, hz]
      rw [hs1, Nat.mul_one] at harr
      simp at harr
      rw [harr]
  rw [hrun]
  exact ⟨⟨rfl, rfl, rfl⟩, hw, hk⟩

/-- Without watches. -/
theorem wpH_makeCap {t e : TypeId} {by_ : Nat} {z z1 : Value} {l n : Int} {k : Value → T} (ht : makeT P t = some (e, by_, z)) (hz1 : z.cells = #[z1]) (hby : by_ ≤ 1024) (hl0 : 0 ≤ l) (hln : l ≤ n) (h1 : n ≤ 2 ^ 30)
    (hk : wpH P Q (k (.slice (some ⟨H.size, 0, none⟩) l.toNat n.toNat)) R (H.push (.cells (List.replicate n.toNat z1).toArray e (0, 0)))) :
    wpH P Q (.op [] (.mkSlice t (.int .i64 l) (.int .i64 n)) k) R H := wpH_makeCapW ht hz1 hby hl0 hln h1 (held_nil _ _) hk

/-- make([]T, n), T of one cell. -/
theorem wpH_make {t e : TypeId} {by_ : Nat} {z z1 : Value} {n : Int} {k : Value → T} (ht : makeT P t = some (e, by_, z)) (hz1 : z.cells = #[z1]) (hby : by_ ≤ 1024) (h0 : 0 ≤ n) (h1 : n ≤ 2 ^ 30)
    (hk : wpH P Q (k (.slice (some ⟨H.size, 0, none⟩) n.toNat n.toNat)) R (H.push (.cells (List.replicate n.toNat z1).toArray e (0, 0)))) :
    wpH P Q (.op [] (.mkSlice t (.int .i64 n) (.int .i64 n)) k) R H := wpH_makeCap ht hz1 hby h0 (Int.le_refl n) h1 hk

/-- What a literal of a slice comes to. -/
def buildT (P : Program) (t : TypeId) (n : Nat) (ps : List (Nat × Value)) : Option (TypeId × Array Value) := match P.underlying t with
  | some (.slice e) => match P.info? e with
    | some i => match i.zero with
      | some z => if Nat.ble (n * i.size) 16777216 then
          (Instr.fill (fun j => some (j * i.size, i.size)) (if n * i.size = 0 then #[] else (Array.range (n * i.size)).map (z.cells[· % z.cells.size]!)) ps).map fun cs => (e, cs)
        else none
      | none => none
    | none => none
  | _ => none

theorem wpH_buildSliceW {ws : List (N × Value)} {t e : TypeId} {n : Nat} {ps : Array (Nat × Value)} {cells : Array Value} {k : Value → T} (ht : buildT P t n ps.toList = some (e, cells))
    (hw : Held P ws (H.push (.cells cells e (0, 0)))) (hk : wpH P Q (k (.slice (some ⟨H.size, 0, none⟩) n n)) R (H.push (.cells cells e (0, 0)))) : wpH P Q (.op ws (.buildSlice t n ps) k) R H := by
  intro w hw'
  subst hw'
  unfold buildT at ht
  split at ht
  case h_2 => cases ht
  rename_i e' hu
  split at ht
  case h_2 => cases ht
  rename_i info hi
  split at ht
  case h_2 => cases ht
  rename_i zv hz
  split at ht
  case isFalse => cases ht
  rename_i hle
  have hle := Nat.le_of_ble_eq_true hle
  obtain ⟨cs, hcs, he⟩ := Option.map_eq_some_iff.1 ht
  simp only [Prod.mk.injEq] at he
  obtain ⟨rfl, rfl⟩ := he
  have hnl : ¬ (16777216 < n * info.size) := by omega
  have e0 : ∀ f : Nat → Value, Array.map f (Array.range 0) = #[] := fun f => by apply Array.ext <;> simp
  have hrun : (N.buildSlice t n ps).sem.run P w = .ok (.value (.slice (some ⟨w.heap.size, 0, none⟩) n n)) { w with heap := w.heap.push (.cells cs e' (0, 0)) } := by
    simp only [N.sem, Instr.buildSlice, Sem.run_bind]
    by_cases hzz : n * info.size = 0
    · rw [if_pos hzz] at hcs
      simp [underlying, hu, typeInfo, hi, newRow, sizeOf, hzz, e0, hcs]
    · rw [if_neg hzz] at hcs
      simp [underlying, hu, typeInfo, hi, newRow, sizeOf, hnl, hzz, zeroValue, hz, hcs]
  rw [hrun]
  exact ⟨⟨rfl, rfl, rfl⟩, hw, hk⟩

theorem wpH_buildSlice {t e : TypeId} {n : Nat} {ps : Array (Nat × Value)} {cells : Array Value} {k : Value → T} (ht : buildT P t n ps.toList = some (e, cells))
    (hk : wpH P Q (k (.slice (some ⟨H.size, 0, none⟩) n n)) R (H.push (.cells cells e (0, 0)))) : wpH P Q (.op [] (.buildSlice t n ps) k) R H := wpH_buildSliceW ht (held_nil _ _) hk

/-- clear of a slice of one-cell elements. -/
theorem wpH_clear {t ty e : TypeId} {by_ : Nat} {z : Value} {cs : Array Bool} {b o n c : Nat} {k : Value → T} (ht : makeT P t = some (e, by_, z)) (hz1 : z.cells = #[z]) (hone : oneV z = true)
    (hok : rowOk H b o n = true) (hf : blkFree H b = true) (hk : wpH P Q (k (.tuple #[])) R (setRowH H b o (List.replicate n z))) :
    wpH P Q (.op [] (.builtin .clear #[t] ty cs #[.slice (some ⟨b, o, none⟩) n c]) k) R H := by
  intro w hw
  subst hw
  unfold makeT at ht
  split at ht
  case h_2 => cases ht
  rename_i e' hu
  split at ht
  case h_2 => cases ht
  rename_i info hi
  split at ht
  case h_2 => cases ht
  rename_i zv hz
  split at ht
  case isFalse => cases ht
  simp only [Option.some.injEq, Prod.mk.injEq] at ht
  obtain ⟨rfl, rfl, rfl⟩ := ht
  by_cases h0 : n = 0
  · subst h0
    have hrun : (N.builtin .clear #[t] ty cs #[.slice (some ⟨b, o, none⟩) 0 c]).sem.run P w = .ok (.value (.tuple #[])) w := by
      simp [N.sem, Go.builtin, Builtin.clear_, underlying, hu]
    rw [hrun]
    exact ⟨Keeps.refl _, held_nil _ _, hk⟩
  · obtain ⟨w', hw', hkp, hh⟩ := run_storeCells (P := P) (vs := List.replicate n zv) (b := b) (o := o) (j := 0) (w := w) (fun v hv => by rw [List.eq_of_mem_replicate hv]; exact hone) fun i _ hi =>
      ⟨rowOk_spec hok i (by simpa using hi), blkFree_spec hf _⟩
    have hzc : (Builtin.zeroCells zv.cells n).toList = List.replicate n zv := by
      unfold Builtin.zeroCells
      rw [hz1]
      apply List.ext_getElem
      · simp
      · intro i h1 h2
        simp [Nat.mod_one]
    have hrun : (N.builtin .clear #[t] ty cs #[.slice (some ⟨b, o, none⟩) n c]).sem.run P w = .ok (.value (.tuple #[])) w' := by
      obtain ⟨m, rfl⟩ : ∃ m, n = m + 1 := ⟨n - 1, by omega⟩
      simp only [N.sem, Go.builtin, Builtin.clear_, Sem.run_bind]
      simp [underlying, hu, zeroValue, typeInfo, hi, hz]
      simp [hzc, hw']
    rw [hrun]
    exact ⟨hkp, held_nil _ _, by rw [hh]; exact hk⟩

end
end Go.Tr
