/- Packages mask and idle: the contracts of their functions. Conditions: the mask is of 1 to 64 numbers (one word); it lies in the heap as told; rows are at most 2^34 long. -/
import Derived.Test.YtgjafaheglnheaaGreatDoorHsCBatch
import Derived.Test.YtgjafaheglnheaaGreatDoorHsBits
set_option maxRecDepth 20000
namespace Go.Tr
open Go.Proofs (Tryz.prog)

@[simp] theorem bool_4 : boolT Tryz.prog 4 = true := by kernel_rfl

theorem blk_ne {H : Heap} {a b : Nat} {c c' : Array Value} {e e' : TypeId} (h : Blk H a c e) (h' : Blk H b c' e') (hne : e ≠ e') : a ≠ b := by
  rintro rfl
  unfold Blk at h h'
  rw [h] at h'
  simp at h'
  exact hne h'.2
theorem Owns.blk_ne {H : Heap} {sz : Nat} {e : TypeId} {v : Value} {cs : List Value} (h : Owns H sz e v cs) {b : Nat} {c : Array Value} {e' : TypeId} (hb : Blk H b c e') (hne : e ≠ e') : blkOf v ≠ some b := by
  rcases h with ⟨rfl, _⟩ | ⟨b', n, c', l, rfl, _, _, _, hblk, _⟩
  · simp
  · intro e; cases e
    exact Go.Tr.blk_ne hblk hb hne rfl

/-- A mask of at most 64 numbers. -/
structure MaskAt (H : Heap) (b wb : Nat) (n w : Nat) : Prop where
  hdr : Blk H b #[i64 n, .slice (some ⟨wb, 0, none⟩) 1 1] 339
  row : Blk H wb #[u64 w] 81
  n1 : 1 ≤ n
  n64 : n ≤ 64
  lt : w < 2 ^ 64

def hasW (n w : Nat) (i : Int) : Bool := decide (0 ≤ i ∧ i < n) && w.testBit i.toNat
def turnW (w : Nat) (i : Int) : Nat := w ^^^ 2 ^ i.toNat

section
variable {H H' : Heap} {b wb n w : Nat}
theorem MaskAt.of_mod (h : MaskAt H b wb n w) {S : List Nat} (m : Mod H H' S) (hb : b ∉ S) (hw : wb ∉ S) : MaskAt H' b wb n w := ⟨m.get h.hdr hb, m.get h.row hw, h.n1, h.n64, h.lt⟩
theorem MaskAt.ne (h : MaskAt H b wb n w) : b ≠ wb := blk_ne h.hdr h.row (by decide)

theorem mask_new {k : Int} (h1 : 1 ≤ k) (h2 : k ≤ 64) : CallsH Tryz.prog 214 #[i64 k] H fun u H' => ∃ b wb, u = ptr b ∧ MaskAt H' b wb k.toNat 0 ∧ Mod H H' [] ∧ H.size ≤ b ∧ H.size ≤ wb := by
  apply calls214
  obtain ⟨n, rfl⟩ : ∃ n : Nat, k = n := ⟨k.toNat, by omega⟩
  have n0 : 0 < n := by omega
  have n1 : ¬ (4096 < (n : Int)) := by omega
  have e2 : IntKind.i64.wrap ((n : Int) + 64) = (n : Int) + 64 := wrap_i64 _ (by omega) (by omega)
  have e3 : IntKind.i64.wrap ((n : Int) + 64 - 1) = (n : Int) + 63 := by rw [wrap_i64 _ (by omega) (by omega)]; omega
  have e4 : ((n : Int) + 63).tdiv 64 = 1 := by rw [Int.tdiv_eq_ediv_of_nonneg (by omega)]; omega
  have e5 : IntKind.i64.wrap 1 = 1 := rfl
  simp only [t214, wpH_pure_eq]
  simp [n0, n1, e2, e3, dry_quo _ _ _ _ _ _ (show (64 : Int) ≠ 0 by decide), e4, e5]
  refine wpH_make make_200 rfl (by decide) (by decide) (by decide) ?_
  simp [Value.cells]
  refine ⟨_, ⟨by unfold Blk; rw [Array.getElem?_push, if_pos (by simp)], get_push_old (get_push_new _ _), by omega, by omega, by decide⟩, (Mod.push _ _).trans (Mod.push _ _), Nat.le_refl _⟩

theorem mask_has {i : Int} (h : MaskAt H b wb n w) : CallsH Tryz.prog 150 #[ptr b, i64 i] H fun u H' => u = .bool (hasW n w i) ∧ H' = H := by
  apply calls150
  unfold hasW
  by_cases h0 : 0 ≤ i
  · by_cases h1 : i < n
    · obtain ⟨j, rfl⟩ : ∃ j : Nat, i = j := ⟨i.toNat, by omega⟩
      have hj : j < 64 := by have := h.n64; omega
      have e1 : (j : Int).tdiv 64 = 0 := by rw [Int.tdiv_eq_ediv_of_nonneg (by omega)]; omega
      have e2 : IntKind.i64.wrap 0 = 0 := rfl
      have e3 : (j : Int).tmod 64 = j := by rw [Int.tmod_eq_emod_of_nonneg (by omega)]; omega
      obtain ⟨x, hx⟩ : ∃ x, x = w >>> j := ⟨_, rfl⟩
      obtain ⟨y, hy⟩ : ∃ y, y = x &&& 1 := ⟨_, rfl⟩
      have ey : y = if w.testBit j then 1 else 0 := by rw [hy, hx, and_one_eq]
      have e5 := dry_shr64 (P := Tryz.prog) 81 (.tmp 23) (.tmp 25) .i64 w j hj
      rw [← hx] at e5
      have e4 : dry Tryz.prog (N.bin .and 81 (.tmp 26) (.const (.int .u64 1)) (.int .u64 (x : Int)) (.int .u64 1)).sem = some (.value (.int .u64 (y : Int))) := by
        rw [hy]
        exact dry_and64 _ _ _ x 1 (by rw [hx]; exact Nat.lt_of_le_of_lt (Nat.shiftRight_le _ _) h.lt) (by decide)
      simp [t150, h1, blk_ok h.hdr, blk_cell h.hdr, blk_ok h.row, blk_cell h.row, Nat.blt, dry_quo _ _ _ _ _ _ (show (64 : Int) ≠ 0 by decide), dry_rem _ _ _ _ _ _ (show (64 : Int) ≠ 0 by decide), e1, e2, e3,
        dry_indexA sl_200 (show (0 : Int) ≤ 0 by decide) (show (0 : Int) < (1 : Nat) by decide), e5, e4, ey]
      cases w.testBit j <;> simp
    · simp [t150, h0, h1, blk_ok h.hdr, blk_cell h.hdr, Nat.blt]
  · simp [t150, h0]

theorem mask_turn {i : Int} {was : Bool} (h : MaskAt H b wb n w) : CallsH Tryz.prog 262 #[ptr b, i64 i, .bool was] H fun u H' =>
    u = .bool (decide (0 ≤ i ∧ i < n) && (hasW n w i == was)) ∧ MaskAt H' b wb n (if decide (0 ≤ i ∧ i < n) && (hasW n w i == was) then turnW w i else w) ∧ Mod H H' [wb] := by
  apply calls262
  by_cases h0 : 0 ≤ i
  · by_cases h1 : i < n
    · obtain ⟨j, rfl⟩ : ∃ j : Nat, i = j := ⟨i.toNat, by omega⟩
      have hj : j < 64 := by have := h.n64; omega
      have k0 : ¬ ((j : Int) < 0) := by omega
      have k1 : ¬ ((n : Int) ≤ j) := by omega
      simp only [t262, wpH_join, wpH_pure_eq]
      simp [k0, k1, blk_ok h.hdr, blk_cell h.hdr, Nat.blt]
      refine (mask_has h).mono ?_
      rintro _ _ ⟨rfl, e⟩
      obtain rfl := e.symm
      have e1 : (j : Int).tdiv 64 = 0 := by rw [Int.tdiv_eq_ediv_of_nonneg (by omega)]; omega
      have e2 : IntKind.i64.wrap 0 = 0 := rfl
      have e3 : (j : Int).tmod 64 = j := by rw [Int.tmod_eq_emod_of_nonneg (by omega)]; omega
      have hp : 2 ^ j < 2 ^ 64 := Nat.pow_lt_pow_right (by decide) hj
      have e4 := dry_xor64 (P := Tryz.prog) 81 (.tmp 31) (.tmp 34) w (2 ^ j) h.lt hp
      by_cases hw : hasW n w j = was
      · have hbeq : (hasW n w j == was) = true := by simp [hw]
        have hjn : j < n := by omega
        simp [hw, hjn, blk_ok h.hdr, blk_cell h.hdr, blk_ok h.row, blk_cell h.row, blk_free h.row, Nat.blt, dry_quo _ _ _ _ _ _ (show (64 : Int) ≠ 0 by decide), dry_rem _ _ _ _ _ _ (show (64 : Int) ≠ 0 by decide), e1, e2, e3,
          dry_indexA sl_200 (show (0 : Int) ≤ 0 by decide) (show (0 : Int) < (1 : Nat) by decide), dry_shl1 _ _ _ _ _ hj]
        refine ⟨_, by simpa using e4, ?_⟩
        simp [blk_ok h.row, blk_free h.row, Nat.blt, turnW]
        refine ⟨⟨by rw [Blk, get_setH_ne (Ne.symm h.ne)]; exact h.hdr, ?_, h.n1, h.n64, Nat.xor_lt_two_pow h.lt hp⟩, Mod.setH _ _ _ (by simp)⟩
        rw [Blk, get_setH_self h.row]; rfl
      · have hjn : j < n := by omega
        simp [hw, hjn]
        exact ⟨h, Mod.refl _ _⟩
    · have hd : ¬ (0 ≤ i ∧ i < n) := fun hh => h1 hh.2
      have k0 : ¬ (i < 0) := by omega
      have k1 : (n : Int) ≤ i := by omega
      simp [t262, k0, k1, blk_ok h.hdr, blk_cell h.hdr, Nat.blt, h1]
      exact ⟨h, Mod.refl _ _⟩
  · have k0 : (i < 0) := by omega
    simp [t262, k0, h0]
    exact ⟨h, Mod.refl _ _⟩
theorem mask_put {i : Int} (h : MaskAt H b wb n w) : CallsH Tryz.prog 216 #[ptr b, i64 i] H fun u H' =>
    u = .bool (decide (0 ≤ i ∧ i < n) && (hasW n w i == false)) ∧ MaskAt H' b wb n (if decide (0 ≤ i ∧ i < n) && (hasW n w i == false) then turnW w i else w) ∧ Mod H H' [wb] := by
  apply calls216
  simp only [t216]
  rw [wpH_call_eq body_262]
  refine (mask_turn (was := false) h).mono ?_
  rintro _ H1 ⟨rfl, h1, h2⟩
  exact ⟨rfl, h1, h2⟩

theorem mask_take {i : Int} (h : MaskAt H b wb n w) : CallsH Tryz.prog 325 #[ptr b, i64 i] H fun u H' =>
    u = .bool (decide (0 ≤ i ∧ i < n) && (hasW n w i == true)) ∧ MaskAt H' b wb n (if decide (0 ≤ i ∧ i < n) && (hasW n w i == true) then turnW w i else w) ∧ Mod H H' [wb] := by
  apply calls325
  simp only [t325]
  rw [wpH_call_eq body_262]
  refine (mask_turn (was := true) h).mono ?_
  rintro _ H1 ⟨rfl, h1, h2⟩
  exact ⟨rfl, h1, h2⟩
end

/-! ### idle -/

structure Idl where
  n : Nat
  w : Nat
  pend : List Int
  ms : List Int
  poller : Int
  nm : Int

structure IdleAt (H : Heap) (b mk wb : Nat) (pv mv : Value) (x : Idl) : Prop where
  hdr : Blk H b #[ptr mk, pv, mv, i64 x.poller, i64 x.nm] 259
  mask : MaskAt H mk wb x.n x.w
  pend : Owns H 1 3 pv (x.pend.map i64)
  ms : Owns H 1 3 mv (x.ms.map i64)
  ne : ∀ c, blkOf pv = some c → blkOf mv ≠ some c

/-- The blocks of it. -/
def idleFoot (b mk wb : Nat) (pv mv : Value) : List Nat := b :: mk :: wb :: ((blkOf pv).toList ++ (blkOf mv).toList)

/-- It is x' now, and nothing else has changed. -/
structure IdleTo (H H' : Heap) (b mk wb : Nat) (pv mv pv' mv' : Value) (x' : Idl) : Prop where
  now : IdleAt H' b mk wb pv' mv' x'
  mod : Mod H H' (idleFoot b mk wb pv mv)
  foot : ∀ c ∈ idleFoot b mk wb pv' mv', c ∈ idleFoot b mk wb pv mv ∨ H.size ≤ c

section
variable {H H' : Heap} {b mk wb : Nat} {pv mv : Value} {x : Idl}
theorem IdleAt.of_mod (h : IdleAt H b mk wb pv mv x) {S : List Nat} (m : Mod H H' S) (hs : ∀ c ∈ idleFoot b mk wb pv mv, c ∉ S) : IdleAt H' b mk wb pv mv x :=
  ⟨m.get h.hdr (hs _ (by simp [idleFoot])), h.mask.of_mod m (hs _ (by simp [idleFoot])) (hs _ (by simp [idleFoot])),
    h.pend.of_mod m (fun c hc => hs _ (by simp [idleFoot, hc])), h.ms.of_mod m (fun c hc => hs _ (by simp [idleFoot, hc])), h.ne⟩
theorem IdleTo.refl (h : IdleAt H b mk wb pv mv x) : IdleTo H H b mk wb pv mv pv mv x := ⟨h, Mod.refl _ _, fun _ hc => .inl hc⟩
theorem IdleAt.nes (h : IdleAt H b mk wb pv mv x) : b ≠ mk ∧ b ≠ wb ∧ mk ≠ wb ∧ blkOf pv ≠ some b ∧ blkOf pv ≠ some mk ∧ blkOf pv ≠ some wb ∧ blkOf mv ≠ some b ∧ blkOf mv ≠ some mk ∧ blkOf mv ≠ some wb :=
  ⟨blk_ne h.hdr h.mask.hdr (by decide), blk_ne h.hdr h.mask.row (by decide), h.mask.ne, h.pend.blk_ne h.hdr (by decide), h.pend.blk_ne h.mask.hdr (by decide), h.pend.blk_ne h.mask.row (by decide),
    h.ms.blk_ne h.hdr (by decide), h.ms.blk_ne h.mask.hdr (by decide), h.ms.blk_ne h.mask.row (by decide)⟩
theorem IdleAt.lt (h : IdleAt H b mk wb pv mv x) : ∀ c ∈ idleFoot b mk wb pv mv, c < H.size := by
  intro c hc
  simp [idleFoot] at hc
  rcases hc with rfl | rfl | rfl | hc | hc
  · exact blk_lt h.hdr
  · exact blk_lt h.mask.hdr
  · exact blk_lt h.mask.row
  · exact h.pend.lt hc
  · exact h.ms.lt hc
/-- Another mask. -/
theorem IdleAt.withMask (h : IdleAt H b mk wb pv mv x) {w' : Nat} (hm : MaskAt H' mk wb x.n w') (m : Mod H H' [wb]) : IdleTo H H' b mk wb pv mv pv mv { x with w := w' } := by
  obtain ⟨n1, n2, n3, n4, n5, n6, n7, n8, n9⟩ := h.nes
  exact ⟨⟨m.get h.hdr (by simpa using n2), hm, h.pend.of_mod m (by intro c hc; simp; rintro rfl; exact n6 hc), h.ms.of_mod m (by intro c hc; simp; rintro rfl; exact n9 hc), h.ne⟩,
    m.mono (by simp [idleFoot]), fun _ hc => .inl hc⟩
/-- Another poller. -/
theorem IdleAt.setPoller (h : IdleAt H b mk wb pv mv x) (k : Int) : IdleTo H (setH H b 3 (i64 k)) b mk wb pv mv pv mv { x with poller := k } := by
  obtain ⟨n1, n2, n3, n4, n5, n6, n7, n8, n9⟩ := h.nes
  have m : Mod H (setH H b 3 (i64 k)) [b] := Mod.setH _ _ _ (by simp)
  exact ⟨⟨by rw [Blk, get_setH_self h.hdr]; rfl, h.mask.of_mod m (by simpa using n1.symm) (by simpa using n2.symm), h.pend.of_mod m (by intro c hc; simp; rintro rfl; exact n4 hc),
    h.ms.of_mod m (by intro c hc; simp; rintro rfl; exact n7 hc), h.ne⟩, m.mono (by simp [idleFoot]), fun _ hc => .inl hc⟩

theorem idle_new {p m : Int} (h1 : 1 ≤ p) (h2 : p ≤ 64) (h3 : 1 ≤ m) (h4 : m ≤ 128) : CallsH Tryz.prog 154 #[i64 p, i64 m] H fun u H' =>
    ∃ b mk wb, u = ptr b ∧ IdleAt H' b mk wb (.slice none 0 0) (.slice none 0 0) ⟨p.toNat, 0, [], [], -1, m⟩ ∧ Mod H H' [] ∧ H.size ≤ b ∧ H.size ≤ mk ∧ H.size ≤ wb := by
  apply calls154
  have n0 : 1 < p ∨ p = 1 := by omega
  have e1 : (if p > 1 then p else 1) = p := by split <;> omega
  have e2 : (if 64 < p then 64 else p) = p := by split <;> omega
  have e3 : (if m > 1 then m else 1) = m := by split <;> omega
  have e4 : (if 128 < m then 128 else m) = m := by split <;> omega
  have e1' : (if 1 < p then p else 1) = p := e1
  have e3' : (if 1 < m then m else 1) = m := e3
  simp only [t154, wpH_pure_eq]
  simp [e1', e2]
  refine (mask_new h1 h2).mono ?_
  rintro _ H1 ⟨mk, wb, rfl, hm, m1, l1, l2⟩
  simp [e3', e4]
  have hlt := blk_lt hm.hdr
  refine ⟨mk, wb, ⟨by unfold Blk; simp [Value.cells], hm.of_mod (Mod.push _ []) (by simp) (by simp), .inl ⟨rfl, rfl⟩, .inl ⟨rfl, rfl⟩, by simp⟩, m1.trans (Mod.push _ _), m1.size, l1, l2⟩

theorem idle_putP {p : Int} (h : IdleAt H b mk wb pv mv x) (hl : x.pend.length ≤ 2 ^ 34) : CallsH Tryz.prog 157 #[ptr b, i64 p] H fun u H' =>
    u = .bool (!decide (p ∈ x.pend) && (decide (0 ≤ p ∧ p < x.n) && (hasW x.n x.w p == false))) ∧
      IdleTo H H' b mk wb pv mv pv mv (if !decide (p ∈ x.pend) && (decide (0 ≤ p ∧ p < x.n) && (hasW x.n x.w p == false)) then { x with w := turnW x.w p } else x) := by
  apply calls157
  simp only [t157, wpH_join, wpH_pure_eq]
  simp [blk_ok h.hdr, blk_cell h.hdr, Nat.blt]
  refine (contains_ints h.pend.reads (by omega)).mono ?_
  rintro _ _ ⟨rfl, e⟩
  obtain rfl := e.symm
  by_cases hp : p ∈ x.pend
  · simp [hp]; exact .refl h
  · simp [hp, blk_ok h.hdr, blk_cell h.hdr, Nat.blt]
    refine (mask_put h.mask).mono ?_
    rintro _ H1 ⟨rfl, hm, m1⟩
    simp
    by_cases hc : (decide (0 ≤ p ∧ p < x.n) && (hasW x.n x.w p == false)) = true
    · rw [if_pos hc] at hm
      have hc' : (0 ≤ p ∧ p < ↑x.n) ∧ hasW x.n x.w p = false := by simpa using hc
      rw [if_pos hc']
      exact h.withMask hm m1
    · rw [if_neg hc] at hm
      have hc' : ¬ ((0 ≤ p ∧ p < ↑x.n) ∧ hasW x.n x.w p = false) := by simpa using hc
      rw [if_neg hc']
      exact h.withMask hm m1

theorem idle_poller (h : IdleAt H b mk wb pv mv x) : CallsH Tryz.prog 94 #[ptr b] H fun u H' => u = .tuple #[i64 (max 0 x.poller), .bool (decide (x.poller ≠ -1))] ∧ H' = H := by
  apply calls94
  simp [t94, blk_ok h.hdr, blk_cell h.hdr, Nat.blt]
  exact ⟨by split <;> omega, by by_cases hh : x.poller = -1 <;> simp [hh]⟩

theorem idle_leave {m : Int} (h : IdleAt H b mk wb pv mv x) : CallsH Tryz.prog 178 #[ptr b, i64 m] H fun u H' =>
    u = .bool (decide (0 ≤ m ∧ m = x.poller)) ∧ IdleTo H H' b mk wb pv mv pv mv (if 0 ≤ m ∧ m = x.poller then { x with poller := -1 } else x) := by
  apply calls178
  by_cases h0 : 0 ≤ m
  · by_cases h1 : m = x.poller
    · have k0 : ¬ m < 0 := by omega
      subst h1
      simp [t178, k0, h0, blk_ok h.hdr, blk_cell h.hdr, blk_free h.hdr, Nat.blt]
      exact h.setPoller _
    · have k0 : ¬ m < 0 := by omega
      simp [t178, k0, h0, h1, blk_ok h.hdr, blk_cell h.hdr, blk_free h.hdr, Nat.blt]
      exact .refl h
  · have k0 : m < 0 := by omega
    have k1 : ¬ (0 ≤ m ∧ m = x.poller) := fun hh => h0 hh.1
    simp [t178, k0, k1]
    exact .refl h
end

/-! ### rows in a cell -/

/-- One more at the end of a row in a cell. -/
theorem wpH_appendOne {H : Heap} {b o : Nat} {v : Value} {xs : List Int} {x : Int} {ty : TypeId} {f : Nat} {k : T} {Q : List Value → Heap → Prop} {R : Option Nat → List Value → Heap → Prop}
    (hfa : dry Tryz.prog (N.fieldA ty (ptr b) f).sem = some (.value (.pointer (some ⟨b, o, none⟩)))) (h : ListAt H b o v xs) (hl : xs.length ≤ 2 ^ 34)
    (hk : ∀ v' H', ListTo H H' b o v v' (xs ++ [x]) → wpH Tryz.prog Q k R H') :
    wpH Tryz.prog Q (.op [] (.buildSlice 33 1 #[(0, i64 x)]) fun v49 => .op [] (.builtin .append #[33, 33] 33 #[false, false] #[v, v49]) fun v50 => .pure (.nilChk (ptr b)) fun v51 =>
      .pure (.fieldA ty v51 f) fun v52 => .op [] (.store 33 v52 v50) fun _ => k) R H := by
  refine wpH_buildSlice (bs_33_1 x) ?_
  have hlt := h.lt
  have h1 : ListAt (H.push (.cells #[i64 x] 3 (0, 0))) b o v xs := h.of_mod (Mod.push _ []) (by simp) (by simp)
  have hrd : Reads (H.push (.cells #[i64 x] 3 (0, 0))) 1 (.slice (some ⟨H.size, 0, none⟩) 1 1) ([x].map i64) := .inr ⟨H.size, 0, 1, 1, rfl, by simp, by simp, by simp⟩
  refine wpH_append app_33_33 (by decide) (by decide) rfl h1.owns hrd (one_ints _) (by rw [h1.owns.len]; simp [lenV]; omega) ?_
  intro v' H2 hto
  have hbn : b ∉ (blkOf v).toList := by simpa using h.ne
  have e2 : H2[b]? = H[b]? := (hto.mod.old b (by simp; omega) hbn).trans (get_push_lt hlt)
  have hok2 : cellOk H2 b o = true := by unfold cellOk; rw [e2]; exact h.ok
  have hfr2 : cellFree H2 b o = true := by unfold cellFree; rw [e2]; exact h.free
  have hone : oneV v' = true := by obtain ⟨a, n, c, rfl⟩ := hto.owns.shape; simp
  have hne' : blkOf v' ≠ some b := by
    rcases hto.blk with hh | hh
    · rw [hh]; exact h.ne
    · rw [hh]; simp; omega
  simp [hfa, hone, hok2, hfr2]
  refine hk v' _ ⟨⟨by simpa using hok2, by simpa using hfr2, by simp [hok2], ?_, hne'⟩, setH_congr e2, ?_, ?_⟩
  · have := hto.owns
    rw [← List.map_append] at this
    exact this.of_mod (Mod.setH b o v' (S := [b]) (by simp)) (by intro c hc; simp; intro e; exact hne' (by rw [hc, e]))
  · exact ((Mod.push _ _).trans (hto.mod.mono (by simp; intro k hk; exact .inr hk))).trans (Mod.setH _ _ _ (by simp))
  · rcases hto.blk with hh | hh
    · exact .inr (.inl hh)
    · exact .inr (.inr ⟨_, hh, by simp⟩)

section
variable {H H' : Heap} {b mk wb : Nat} {pv mv : Value} {x : Idl}
theorem IdleAt.pendList (h : IdleAt H b mk wb pv mv x) : ListAt H b 1 pv x.pend := ⟨by rw [blk_ok h.hdr]; rfl, blk_free h.hdr, by rw [blk_cell h.hdr]; rfl, h.pend, h.nes.2.2.2.1⟩
theorem IdleAt.msList (h : IdleAt H b mk wb pv mv x) : ListAt H b 2 mv x.ms := ⟨by rw [blk_ok h.hdr]; rfl, blk_free h.hdr, by rw [blk_cell h.hdr]; rfl, h.ms, h.nes.2.2.2.2.2.2.1⟩
theorem IdleAt.withPend (h : IdleAt H b mk wb pv mv x) {pv' : Value} {ps : List Int} (t : ListTo H H' b 1 pv pv' ps) : IdleTo H H' b mk wb pv mv pv' mv { x with pend := ps } := by
  obtain ⟨n1, n2, n3, n4, n5, n6, n7, n8, n9⟩ := h.nes
  have hv : ∀ c, blkOf mv = some c → c ∉ (b :: (blkOf pv).toList) := by
    intro c hc; simp; exact ⟨by rintro rfl; exact n7 hc, fun hp => h.ne c hp hc⟩
  refine ⟨⟨by rw [Blk, t.hdr, get_setH_self h.hdr]; rfl, h.mask.of_mod t.mod (by simp; exact ⟨n1.symm, n5⟩) (by simp; exact ⟨n2.symm, n6⟩), t.now.owns, h.ms.of_mod t.mod hv, ?_⟩,
    t.mod.mono (by simp [idleFoot]; intro c hc; simp [hc]), ?_⟩
  · intro c hc hm
    rcases t.blk with hh | hh | ⟨nb, hh, hl⟩
    · rw [hh] at hc; cases hc
    · rw [hh] at hc; exact h.ne c hc hm
    · rw [hh] at hc; cases hc; have := h.ms.lt hm; omega
  · intro c hc
    simp [idleFoot] at hc ⊢
    rcases hc with rfl | rfl | rfl | hc | hc
    · simp
    · simp
    · simp
    · rcases t.blk with hh | hh | ⟨nb, hh, hl⟩
      · rw [hh] at hc; cases hc
      · rw [hh] at hc; simp [hc]
      · rw [hh] at hc; cases hc; exact .inr hl
    · simp [hc]
theorem IdleAt.withMs (h : IdleAt H b mk wb pv mv x) {mv' : Value} {ps : List Int} (t : ListTo H H' b 2 mv mv' ps) : IdleTo H H' b mk wb pv mv pv mv' { x with ms := ps } := by
  obtain ⟨n1, n2, n3, n4, n5, n6, n7, n8, n9⟩ := h.nes
  have hv : ∀ c, blkOf pv = some c → c ∉ (b :: (blkOf mv).toList) := by
    intro c hc; simp; exact ⟨by rintro rfl; exact n4 hc, fun hp => h.ne c hc hp⟩
  refine ⟨⟨by rw [Blk, t.hdr, get_setH_self h.hdr]; rfl, h.mask.of_mod t.mod (by simp; exact ⟨n1.symm, n8⟩) (by simp; exact ⟨n2.symm, n9⟩), h.pend.of_mod t.mod hv, t.now.owns, ?_⟩,
    t.mod.mono (by simp [idleFoot]; intro c hc; simp [hc]), ?_⟩
  · intro c hc hm
    rcases t.blk with hh | hh | ⟨nb, hh, hl⟩
    · rw [hh] at hm; cases hm
    · rw [hh] at hm; exact h.ne c hc hm
    · rw [hh] at hm; cases hm; have := h.pend.lt hc; omega
  · intro c hc
    simp [idleFoot] at hc ⊢
    rcases hc with rfl | rfl | rfl | hc | hc
    · simp
    · simp
    · simp
    · simp [hc]
    · rcases t.blk with hh | hh | ⟨nb, hh, hl⟩
      · rw [hh] at hc; cases hc
      · rw [hh] at hc; simp [hc]
      · rw [hh] at hc; cases hc; exact .inr hl

/-- What Stop leaves. -/
def Idl.stop (x : Idl) (m : Int) : Idl := if m < 0 ∨ x.nm ≤ m ∨ m = x.poller ∨ m ∈ x.ms then x else if x.poller = -1 then { x with poller := m } else { x with ms := x.ms ++ [m] }
def Idl.stops (x : Idl) (m : Int) : Bool × Bool := if m < 0 ∨ x.nm ≤ m ∨ m = x.poller ∨ m ∈ x.ms then (false, false) else if x.poller = -1 then (true, true) else (false, true)

theorem idle_stop {m : Int} (h : IdleAt H b mk wb pv mv x) (hl : x.ms.length ≤ 2 ^ 34) : CallsH Tryz.prog 158 #[ptr b, i64 m] H fun u H' =>
    u = .tuple #[.bool (x.stops m).1, .bool (x.stops m).2] ∧ ∃ mv', IdleTo H H' b mk wb pv mv pv mv' (x.stop m) := by
  apply calls158
  unfold Idl.stop Idl.stops
  by_cases h0 : m < 0
  · simp [t158, h0]; exact ⟨mv, .refl h⟩
  · by_cases h1 : x.nm ≤ m
    · simp [t158, h0, h1, blk_ok h.hdr, blk_cell h.hdr, Nat.blt]; exact ⟨mv, .refl h⟩
    · by_cases h2 : m = x.poller
      · subst h2; simp [t158, h0, h1, blk_ok h.hdr, blk_cell h.hdr, Nat.blt]; exact ⟨mv, .refl h⟩
      · simp [t158, h0, h1, h2, blk_ok h.hdr, blk_cell h.hdr, Nat.blt]
        refine (contains_ints h.ms.reads (by omega)).mono ?_
        rintro _ _ ⟨rfl, e⟩
        obtain rfl := e.symm
        by_cases h3 : m ∈ x.ms
        · simp [h3]; exact ⟨mv, .refl h⟩
        · by_cases h4 : x.poller = -1
          · simp [h3, h4, blk_ok h.hdr, blk_cell h.hdr, blk_free h.hdr, Nat.blt]
            exact ⟨mv, h.setPoller _⟩
          · simp [h3, h4, blk_ok h.hdr, blk_cell h.hdr, blk_free h.hdr, Nat.blt]
            refine wpH_appendOne (o := 2) (by simp) h.msList hl ?_
            intro v' H1 t
            simp
            exact ⟨v', h.withMs t⟩
end

end Go.Tr
