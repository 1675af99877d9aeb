/- Packages explore and hostlerref28: Count, Order, Next; hostlerref05.Same: what they answer. Conditions: at most 2^40 machines. -/
import Derived.Test.YtgjafaheglnheaaGreatDoorHsCGlob
import Derived.Test.YtgjafaheglnheaaGreatDoorHsTL
import Derived.Test.YtgjafaheglnheaaGreatDoorHsTB
set_option maxRecDepth 20000
namespace Go.Tr
open Go.Proofs.Tryz (prog)

/-- How many orders there are. -/
def cnt (m l : Int) : Int := if m < 0 ∨ l < 0 ∨ (m = 0 ∧ 0 < l) then 0 else if m.toNat ^ l.toNat ≤ 1048576 then ((m.toNat ^ l.toNat : Nat) : Int) else 0
/-- The last k digits of i. -/
def digs (m : Nat) : Nat → Nat → List Nat
  | 0, _ => []
  | k + 1, i => (i / m ^ k % m) :: digs m k i
@[simp] theorem digs_len (m k i : Nat) : (digs m k i).length = k := by
  induction k with
  | zero => rfl
  | succ k ih => simp [digs, ih]
theorem digs_snoc (m : Nat) : ∀ k i, digs m (k + 1) i = digs m k (i / m) ++ [i % m] := by
  intro k
  induction k with
  | zero => intro i; simp [digs]
  | succ k ih =>
    intro i
    rw [digs, ih i, digs, List.cons_append, Nat.pow_succ, Nat.mul_comm, Nat.div_div_eq_div_mul]
/-- The order behind one. -/
def incR (m : Int) : List Int → List Int
  | [] => []
  | x :: r => if x + 1 < m then (x + 1) :: r else 0 :: incR m r
def nextL (m : Int) (l : List Int) : List Int := (incR m l.reverse).reverse
theorem nextL_snoc (m : Int) (l : List Int) (x : Int) : nextL m (l ++ [x]) = if x + 1 < m then l ++ [x + 1] else nextL m l ++ [0] := by
  unfold nextL
  rw [List.reverse_append, List.reverse_singleton, List.singleton_append, incR]
  split <;> simp
def digsI (m k i : Nat) : List Int := (digs m k i).map fun (n : Nat) => (n : Int)
@[simp] theorem digsI_len (m k i : Nat) : (digsI m k i).length = k := by simp [digsI]
theorem next_digs (m : Nat) (hm : 0 < m) : ∀ k i, nextL m (digsI m k i) = digsI m k (i + 1) := by
  intro k
  induction k with
  | zero => intro i; rfl
  | succ k ih =>
    intro i
    have e : ∀ i, digsI m (k + 1) i = digsI m k (i / m) ++ [((i % m : Nat) : Int)] := fun i => by simp [digsI, digs_snoc]
    rw [e, nextL_snoc, e]
    have hlt := Nat.mod_lt i hm
    by_cases h : i % m + 1 < m
    · have h1 : (i + 1) % m = i % m + 1 := by rw [Nat.add_mod, Nat.mod_eq_of_lt (a := 1) (by omega), Nat.mod_eq_of_lt h]
      have h2 : (i + 1) / m = i / m := by
        have a := Nat.div_add_mod i m
        have b := Nat.div_add_mod (i + 1) m
        rw [h1] at b
        exact Nat.eq_of_mul_eq_mul_left hm (by omega)
      rw [if_pos (by omega), h1, h2]; simp
    · have hmm : i % m = m - 1 := by omega
      have h3 : i + 1 = m * (i / m + 1) := by
        have a := Nat.div_add_mod i m
        rw [Nat.mul_add, Nat.mul_one]; omega
      have h1 : (i + 1) % m = 0 := by rw [h3]; exact Nat.mul_mod_right _ _
      have h2 : (i + 1) / m = i / m + 1 := by rw [h3]; exact Nat.mul_div_cancel_left _ hm
      rw [if_neg (by omega), h1, h2, ih]; simp
theorem digs_zero (m : Nat) (k : Nat) : digsI m k 0 = List.replicate k 0 := by
  induction k with
  | zero => rfl
  | succ k ih =>
    have : digsI m (k + 1) 0 = 0 :: digsI m k 0 := by simp [digsI, digs]
    rw [this, ih]; rfl

section
variable {H : Heap}
theorem lt_pow_big (T m : Nat) (h : 2 ≤ m) : T < m ^ T := Nat.lt_of_lt_of_le Nat.lt_two_pow_self (Nat.pow_le_pow_left h T)

theorem count_spec {m l : Int} (hm : m ≤ 2 ^ 40) : CallsH prog 30 #[i64 m, i64 l] H fun v H' => v = i64 (cnt m l) ∧ H' = H := by
  apply calls30
  by_cases m0 : m < 0
  · simp [t30, m0, cnt]
  by_cases l0 : l < 0
  · simp [t30, m0, l0, cnt]
  by_cases z : m = 0 ∧ 0 < l
  · simp [t30, z, l0, cnt]
  by_cases m1 : m = 1
  · subst m1
    simp [t30, l0, cnt]
  have hz : (m = 0) → ¬ 0 < l := fun a b => z ⟨a, b⟩
  obtain ⟨t, ht, htl⟩ : ∃ t : Nat, (t : Int) = (if 1048576 < l then 1048576 else l) ∧ t ≤ l.toNat := ⟨(if 1048576 < l then 1048576 else l).toNat, by split <;> omega, by split <;> omega⟩
  have ht' : (if (1048576 : Int) < l then (1048576 : Int) else l) = t := ht.symm
  have start : wpH prog (fun vs H' => retVal vs = i64 (cnt m l) ∧ H' = H) (.loop [i64 1, i64 0] (fun s2 => .pure (.bin .lss 3 (.tmp 25) (.tmp 24) (sl s2 1) (i64 t)) fun v26 => .ite v26 (.pure (.bin .mul 3 (.tmp 27) (.tmp 28) (sl s2 0) (i64 m)) fun v29 => .pure (.bin .gtr 3 (.tmp 30) (.const (.int .i64 1048576)) v29 (.int .i64 1048576)) fun v31 => .ite v31 (.ret [(.int .i64 0)])
      (.pure (.bin .add 3 (.tmp 25) (.const (.int .i64 1)) (sl s2 1) (.int .i64 1)) fun v32 => .leaf none [v29, v32])) (.leaf (some 0) [(sl s2 0), (sl s2 1)])) (fun x s3 => (if Nat.beq x 0 then .ret [(sl s3 0)] else .bad))) (fun _ _ _ => False) H := by
    refine wpH_loop (fun s H' => H' = H ∧ ∃ k : Nat, k ≤ t ∧ s = [i64 ((m.toNat ^ k : Nat) : Int), i64 k] ∧ m.toNat ^ k ≤ 1048576) (fun s _ => t - (intOf (sl s 1)).toNat) ⟨rfl, 0, by omega, by simp, by simp⟩ ?_
    rintro s H' ⟨rfl, k, hk, rfl, hp⟩
    by_cases hlt : k < t
    · have hm2 : 2 ≤ m.toNat := by omega
      have hmul : ((m.toNat ^ k : Nat) : Int) * m = ((m.toNat ^ (k + 1) : Nat) : Int) := by
        rw [Nat.pow_succ]; push_cast; rw [show ((m.toNat : Nat) : Int) = m by omega]
      have hb : m.toNat ^ (k + 1) ≤ 1048576 * 2 ^ 40 := by rw [Nat.pow_succ]; exact Nat.mul_le_mul hp (by omega)
      have hw : IntKind.i64.wrap (((m.toNat ^ k : Nat) : Int) * m) = ((m.toNat ^ (k + 1) : Nat) : Int) := by rw [hmul]; exact wrap_i64 _ (by omega) (by omega)
      have hw2 : IntKind.i64.wrap ((k : Int) + 1) = ((k + 1 : Nat) : Int) := by rw [wrap_i64 _ (by omega) (by omega)]; simp
      generalize he : m.toNat ^ (k + 1) = q at *
      generalize he0 : m.toNat ^ k = q0 at *
      by_cases hq : 1048576 < q
      · have hqi : (1048576 : Int) < (q : Int) := by omega
        simp [hlt, hw, hqi]
        have hle : m.toNat ^ (k + 1) ≤ m.toNat ^ l.toNat := Nat.pow_le_pow_right (by omega) (by omega)
        unfold cnt
        rw [if_neg (by omega), if_neg (by omega)]
      · have hqi : ¬ (1048576 : Int) < (q : Int) := by omega
        simp [hlt, hw, hqi, hw2, intOf]
        refine ⟨⟨k + 1, by omega, ⟨by rw [show max m 0 = ((m.toNat : Nat) : Int) by omega, ← Int.natCast_pow, he], by simp⟩, by omega⟩, by omega⟩
    · have hkt : k = t := by omega
      subst hkt
      try simp
      unfold cnt
      rw [if_neg (by omega)]
      by_cases hb : 1048576 < l
      · rw [if_pos hb] at ht
        have hm2 : 2 ≤ m.toNat := by omega
        have := lt_pow_big k m.toNat hm2
        omega
      · rw [if_neg hb] at ht
        have : k = l.toNat := by omega
        subst this
        rw [if_pos hp]
        try rw [show max m 0 = ((m.toNat : Nat) : Int) by omega, Int.natCast_pow]
  simp [t30, m0, l0, m1, ht']
  by_cases mz : m = 0
  · simp [mz, hz mz] at start ⊢; exact start
  · simp [mz]; exact start

theorem cnt_pos {m l i : Int} (h0 : 0 ≤ i) (h : i < cnt m l) : 0 ≤ m ∧ 0 ≤ l ∧ (0 < l → 0 < m) ∧ cnt m l = ((m.toNat ^ l.toNat : Nat) : Int) := by
  unfold cnt at h ⊢
  split at h
  · omega
  · rename_i hc
    rw [if_neg hc]
    split at h
    · rename_i hp
      rw [if_pos hp]
      refine ⟨by omega, by omega, by omega, rfl⟩
    · omega

/-- What Order hands back. -/
def orderL (m l i : Int) : List Int := if i < 0 ∨ cnt m l ≤ i ∨ 1048576 < l then [] else digsI m.toNat l.toNat i.toNat

theorem order_spec {m l i : Int} (hm : m ≤ 2 ^ 40) : CallsH prog 31 #[i64 m, i64 l, i64 i] H fun v H' => NewTo H H' 1 3 v ((orderL m l i).map i64) := by
  apply calls31
  have none_ : (i < 0 ∨ cnt m l ≤ i ∨ 1048576 < l) → NewTo H H 1 3 (.slice none 0 0) ((orderL m l i).map i64) := fun h => by
    unfold orderL; rw [if_pos h]
    exact ⟨.inl ⟨rfl, rfl⟩, Mod.refl _ _, (by intro b hb; cases hb), rfl⟩
  by_cases i0 : i < 0
  · simp [t31, i0]
    exact none_ (.inl i0)
  simp [t31, i0]
  refine (count_spec hm).mono ?_
  rintro _ H1 ⟨rfl, h1⟩
  rw [h1]
  clear h1 H1
  by_cases hc : cnt m l ≤ i
  · simp [hc]
    exact none_ (.inr (.inl hc))
  by_cases hl : 1048576 < l
  · simp [hc, hl]
    exact none_ (.inr (.inr hl))
  simp [hc, hl]
  obtain ⟨m0, l0, hml, -⟩ := cnt_pos (by omega) (show i < cnt m l by omega)
  obtain ⟨mn, rfl⟩ : ∃ n : Nat, m = n := ⟨m.toNat, by omega⟩
  obtain ⟨ln, rfl⟩ : ∃ n : Nat, l = n := ⟨l.toNat, by omega⟩
  obtain ⟨iN, rfl⟩ : ∃ n : Nat, i = n := ⟨i.toNat, by omega⟩
  have e : orderL mn ln iN = digsI mn ln iN := by unfold orderL; rw [if_neg (by omega)]; simp
  rw [e]
  refine wpH_make make_33 rfl (by decide) (by omega) (by omega) ?_
  try simp
  refine wpH_loop (fun s H' => ∃ k : Nat, k ≤ ln ∧ s = [i64 ((iN / mn ^ k : Nat) : Int), i64 k] ∧ H' = H.push (.cells (List.replicate (ln - k) (i64 0) ++ (digsI mn k iN).map i64).toArray 3 (0, 0))) (fun s _ => ln - (intOf (sl s 1)).toNat)
    ⟨0, by omega, by simp, by simp [digsI, digs]⟩ ?_
  rintro s H' ⟨k, hk, rfl, rfl⟩
  by_cases hlt : k < ln
  · have hm0 : 0 < mn := by omega
    have hmi : (mn : Int) ≠ 0 := by omega
    have w1 : IntKind.i64.wrap ((ln : Int) - 1) = (ln : Int) - 1 := wrap_i64 _ (by omega) (by omega)
    have w2 : IntKind.i64.wrap ((ln : Int) - 1 - k) = ((ln - 1 - k : Nat) : Int) := by rw [wrap_i64 _ (by omega) (by omega)]; omega
    have w3 : IntKind.i64.wrap ((k : Int) + 1) = ((k + 1 : Nat) : Int) := by rw [wrap_i64 _ (by omega) (by omega)]; simp
    have hdv : iN / mn ^ k ≤ iN := Nat.div_le_self _ _
    have hib : iN ≤ 1048576 := by
      have := hc; unfold cnt at this
      split at this
      · omega
      · split at this <;> omega
    have r1 : ((iN / mn ^ k : Nat) : Int).tmod (mn : Int) = ((iN / mn ^ k % mn : Nat) : Int) := by rw [Int.tmod_eq_emod_of_nonneg (Int.natCast_nonneg _)]; simp
    have r2 : ((iN / mn ^ k : Nat) : Int).tdiv (mn : Int) = ((iN / mn ^ (k + 1) : Nat) : Int) := by
      rw [Int.tdiv_eq_ediv_of_nonneg (Int.natCast_nonneg _), Nat.pow_succ, ← Nat.div_div_eq_div_mul]; simp
    have hdv2 : iN / mn ^ (k + 1) ≤ iN := Nat.div_le_self _ _
    generalize hq0 : iN / mn ^ k = q0 at *
    generalize hq1 : iN / mn ^ (k + 1) = q1 at *
    have w4 : IntKind.i64.wrap (q1 : Int) = q1 := wrap_i64 _ (by omega) (by omega)
    have ix := dry_indexA (P := prog) (b := H.size) (o := 0) (n := ln) (c := ln) (k := .i64) (t := 33) sl_33 (show (0 : Int) ≤ ((ln - 1 - k : Nat) : Int) by omega) (show ((ln - 1 - k : Nat) : Int) < ln by omega)
    simp only [Int.toNat_natCast, Nat.zero_add, Nat.mul_one] at ix
    have hb := get_push_new H (.cells (List.replicate (ln - k) (i64 0) ++ (digsI mn k iN).map i64).toArray 3 (0, 0))
    have hok : cellOk (H.push (.cells (List.replicate (ln - k) (i64 0) ++ (digsI mn k iN).map i64).toArray 3 (0, 0))) H.size (ln - 1 - k) = true := cellOk_list hb (by simp; omega)
    simp [hlt, w1, w2, w3, dry_rem _ _ _ _ _ _ hmi, dry_quo _ _ _ _ _ _ hmi, r1, r2, w4, ix, hok, blk_free hb, setH_push_new]
    refine ⟨⟨k + 1, by omega, ⟨by rw [← hq1]; simp, by simp⟩, ?_⟩, by simp [intOf]; omega⟩
    have e1 : digsI mn (k + 1) iN = ((q0 % mn : Nat) : Int) :: digsI mn k iN := by simp [digsI, digs, hq0]
    have e2 : List.replicate (ln - k) (i64 0) = List.replicate (ln - (k + 1)) (i64 0) ++ [i64 0] := by rw [show ln - k = (ln - (k + 1)) + 1 by omega, List.replicate_succ']
    rw [e1, e2]
    rw [List.append_assoc, List.set_append_right _ _ (by simp; omega)]
    simp [show ln - 1 - k - (ln - (k + 1)) = 0 by omega]
  · have hkl : k = ln := by omega
    subst hkl
    try simp
    refine ⟨.inr ⟨H.size, k, k, (digsI mn k iN).map i64, rfl, by simp, by simp, by omega, by rw [Blk]; simp, by simp [List.take_of_length_le]⟩, Mod.push _ _, by intro b hb; cases hb; exact Nat.le_refl _, by simp [lenV]⟩

theorem same_spec {u v : Value} {xs ys : List Int} (hx : Reads H 1 u (xs.map i64)) (hy : Reads H 1 v (ys.map i64)) (hl : xs.length ≤ 2 ^ 40) :
    CallsH prog 33 #[u, v] H fun w H' => w = .bool (decide (xs = ys)) ∧ H' = H := by
  apply calls33
  obtain ⟨a, n, c, rfl⟩ : ∃ a n c, u = .slice a n c := by
    rcases hx with ⟨rfl, _⟩ | ⟨b, o, n, c, rfl, _⟩ <;> exact ⟨_, _, _, rfl⟩
  obtain ⟨a', n', c', rfl⟩ : ∃ a n c, v = .slice a n c := by
    rcases hy with ⟨rfl, _⟩ | ⟨b, o, n, c, rfl, _⟩ <;> exact ⟨_, _, _, rfl⟩
  obtain ⟨hn, cx⟩ := reads_cell hx rfl
  obtain ⟨hn', cy⟩ := reads_cell hy rfl
  subst hn hn'
  by_cases hlen : xs.length = ys.length
  · simp [t33, hlen]
    refine wpH_loop (fun s H' => H' = H ∧ ∃ k : Nat, k ≤ ys.length ∧ s = [i64 k] ∧ ∀ j, j < k → xs.getD j 0 = ys.getD j 0) (fun s _ => ys.length - (intOf (sl s 0)).toNat) ⟨rfl, 0, by omega, rfl, by simp⟩ ?_
    rintro s H' ⟨rfl, k, hk, rfl, hj⟩
    by_cases hlt : k < ys.length
    · obtain ⟨b, o, rfl, ok1, cd1⟩ := cx k (by omega)
      obtain ⟨b', o', rfl, ok2, cd2⟩ := cy k hlt
      have hw : IntKind.i64.wrap ((k : Int) + 1) = ((k + 1 : Nat) : Int) := by rw [wrap_i64 _ (by omega) (by omega)]; simp
      have ix1 := dry_indexA (P := prog) (b := b) (o := o) (n := ys.length) (c := c) (k := .i64) (t := 33) sl_33 (show (0 : Int) ≤ (k : Int) by omega) (show (k : Int) < (ys.length : Int) by omega)
      have ix2 := dry_indexA (P := prog) (b := b') (o := o') (n := ys.length) (c := c') (k := .i64) (t := 33) sl_33 (show (0 : Int) ≤ (k : Int) by omega) (show (k : Int) < (ys.length : Int) by omega)
      simp only [Int.toNat_natCast, Nat.mul_one] at ix1 ix2
      simp only [List.getD_eq_getElem?_getD] at cd1 cd2
      have hxk : xs[k]?.getD 0 = xs[k] := by simp [show k < xs.length by omega]
      have hyk : ys[k]?.getD 0 = ys[k] := by simp [hlt]
      rw [hxk] at cd1
      rw [hyk] at cd2
      by_cases he : xs[k] = ys[k]
      · simp [hlt, ix1, ix2, ok1, ok2, cd1, cd2, he, hw, intOf]
        refine ⟨⟨k + 1, by omega, by simp, fun j hj1 => ?_⟩, by omega⟩
        rcases Nat.lt_or_ge j k with h | h
        · simpa using hj j h
        · have : j = k := by omega
          subst this; simpa [hxk, hyk] using he
      · have hne : ¬ xs = ys := fun e => he (by simp [e])
        simp [hlt, ix1, ix2, ok1, ok2, cd1, cd2, he, hne]
    · have hkl : k = ys.length := by omega
      subst hkl
      have heq : xs = ys := by
        apply List.ext_getElem hlen
        intro j h1 h2
        have := hj j (by omega)
        simpa [h1, h2] using this
      simp [heq]
  · have hne : ¬ xs = ys := fun e => hlen (by rw [e])
    have hni : ¬ (xs.length : Int) = (ys.length : Int) := by omega
    simp [t33, hni, hne]

theorem refCount_spec {m l : Int} (hm : m ≤ 2 ^ 40) (hl : l ≤ 2 ^ 40) : CallsH prog 32 #[i64 m, i64 l] H fun v H' => v = i64 (cnt m l) ∧ H' = H := by
  apply calls32
  by_cases h0 : l = 0 ∧ 0 ≤ m
  · obtain ⟨rfl, hm0⟩ := h0
    simp [t32, hm0, cnt]
  have h0' : l = 0 → ¬ 0 ≤ m := fun a b => h0 ⟨a, b⟩
  by_cases h1 : m < 1
  · have hc : cnt m l = 0 := by
      unfold cnt
      by_cases hc : m < 0 ∨ l < 0 ∨ (m = 0 ∧ 0 < l)
      · rw [if_pos hc]
      · have : l = 0 := by omega
        exact absurd (show 0 ≤ m by omega) (h0' this)
    by_cases hl0 : l = 0
    · simp [t32, hl0, h0' hl0, h1]; rw [hl0] at hc; exact hc.symm
    · simp [t32, hl0, h1]; exact hc.symm
  by_cases h2 : l < 0
  · have hl0 : ¬ l = 0 := by omega
    simp [t32, hl0, h1, h2, cnt]
  have hl0 : ¬ l = 0 := by omega
  simp [t32, hl0, h1, h2]
  refine wpH_loop (fun s H' => H' = H ∧ ∃ k : Nat, (k : Int) ≤ l ∧ s = [i64 ((m.toNat ^ k : Nat) : Int), i64 k] ∧ m.toNat ^ k ≤ 1048576 ∧ (m = 1 → k = 0)) (fun s _ => l.toNat - (intOf (sl s 1)).toNat) ⟨rfl, 0, by omega, by simp, by simp, by simp⟩ ?_
  rintro s H' ⟨rfl, k, hk, rfl, hp, hone⟩
  by_cases hm1 : m = 1
  · have := hone hm1
    subst this
    subst hm1
    have hlt : (0 : Int) < l := by omega
    simp [hlt, cnt, h2]
  have hmg : 1 < m := by omega
  by_cases hlt : (k : Int) < l
  · have hmul : ((m.toNat ^ k : Nat) : Int) * m = ((m.toNat ^ (k + 1) : Nat) : Int) := by
      rw [Nat.pow_succ]; push_cast; rw [show ((m.toNat : Nat) : Int) = m by omega]
    have hb : m.toNat ^ (k + 1) ≤ 1048576 * 2 ^ 40 := by rw [Nat.pow_succ]; exact Nat.mul_le_mul hp (by omega)
    have hw : IntKind.i64.wrap (((m.toNat ^ k : Nat) : Int) * m) = ((m.toNat ^ (k + 1) : Nat) : Int) := by rw [hmul]; exact wrap_i64 _ (by omega) (by omega)
    have hw2 : IntKind.i64.wrap ((k : Int) + 1) = ((k + 1 : Nat) : Int) := by rw [wrap_i64 _ (by omega) (by omega)]; simp
    have hle : m.toNat ^ (k + 1) ≤ m.toNat ^ l.toNat := Nat.pow_le_pow_right (by omega) (by omega)
    have hmle : m.toNat ≤ m.toNat ^ (k + 1) := by
      have := Nat.pow_le_pow_right (n := m.toNat) (by omega) (show 1 ≤ k + 1 by omega)
      simpa using this
    have hbig : 1048576 < m.toNat ^ (k + 1) → cnt m l = 0 := fun h => by
      unfold cnt
      rw [if_neg (by omega), if_neg (by omega)]
    generalize he : m.toNat ^ (k + 1) = q at *
    generalize he0 : m.toNat ^ k = q0 at *
    by_cases hq : 1048576 < q
    · have hqi : (1048576 : Int) < (q : Int) := by omega
      simp [hlt, hmg, hw, hqi]
      exact (hbig hq).symm
    · have hqi : ¬ (1048576 : Int) < (q : Int) := by omega
      have hmi : ¬ (1048576 : Int) < m := by omega
      simp [hlt, hmg, hw, hqi, hmi, hw2, intOf]
      refine ⟨⟨k + 1, by omega, ⟨by rw [show max m 0 = ((m.toNat : Nat) : Int) by omega, ← Int.natCast_pow, he], by simp⟩, by omega, fun e => absurd e hm1⟩, by omega⟩
  · have hkl : (k : Int) = l := by omega
    have : k = l.toNat := by omega
    subst this
    simp [hlt, hkl]
    unfold cnt
    rw [if_neg (by omega), if_pos hp]
    try rw [show max m 0 = ((m.toNat : Nat) : Int) by omega, Int.natCast_pow]

/-- A number of a row of its own is written. -/
theorem Owns.setInt {b n c : Nat} {ys : List Int} (h : Owns H 1 3 (.slice (some ⟨b, 0, none⟩) n c) (ys.map i64)) {k : Nat} (hk : k < ys.length) (x : Int) :
    Owns (setH H b k (i64 x)) 1 3 (.slice (some ⟨b, 0, none⟩) n c) ((ys.set k x).map i64) ∧ cellOk H b k = true ∧ cellFree H b k = true ∧ Mod H (setH H b k (i64 x)) [b] := by
  rcases h with ⟨h, _⟩ | ⟨b', n', c', l, h, h1, h2, h3, h4, h5⟩
  · cases h
  · cases h
    simp at h1 h2 h5
    refine ⟨.inr ⟨b, n, c, l.set k (i64 x), rfl, by simpa using h1, by simpa using h2, h3, by rw [Blk, get_setH_list h4], ?_⟩, cellOk_list h4 (by omega), blk_free h4, Mod.setH _ _ _ (by simp)⟩
    rw [Nat.mul_one, List.take_set, h5, List.map_set]

theorem refNext_spec {u : Value} {xs : List Int} {m : Int} (hx : Reads H 1 u (xs.map i64)) (hl : xs.length ≤ 2 ^ 34) (hb : ∀ x ∈ xs, 0 ≤ x ∧ x < 2 ^ 50) :
    CallsH prog 34 #[u, i64 m] H fun v H' => NewTo H H' 1 3 v ((nextL m xs).map i64) := by
  apply calls34
  simp only [t34]
  obtain ⟨a, n, c, rfl⟩ : ∃ a n c, u = .slice a n c := by
    rcases hx with ⟨rfl, _⟩ | ⟨b, o, n, c, rfl, _⟩ <;> exact ⟨_, _, _, rfl⟩
  obtain ⟨hn, -⟩ := reads_cell hx rfl
  subst hn
  refine wpH_buildSlice (P := prog) (t := 33) (e := 3) (n := 0) (ps := #[]) (cells := #[]) bs_33_0 ?_
  have hown : Owns (H.push (.cells #[] 3 (0, 0))) 1 3 (.slice (some ⟨H.size, 0, none⟩) 0 0) [] := .inr ⟨H.size, 0, 0, [], rfl, by simp, by simp, Nat.le_refl _, by rw [Blk]; simp, by simp⟩
  have hx' : Reads (H.push (.cells #[] 3 (0, 0))) 1 (.slice a xs.length c) (xs.map i64) := by
    rcases hx with h | ⟨b, o, n', c', h, h1, h2, h3⟩
    · exact .inl h
    · have hlt : b < H.size := by
        unfold rowOk at h2
        split at h2
        · rename_i hb'; exact blk_lt hb'
        · cases h2
      exact .inr ⟨b, o, n', c', h, h1, by unfold rowOk at *; rw [get_push_lt hlt]; exact h2, by unfold rowD at *; rw [get_push_lt hlt]; exact h3⟩
  refine wpH_append app_33_33 (by decide) (by decide) rfl hown hx' (one_ints xs) (by simp only [lenV]; omega) ?_
  intro v H1 hto
  have ho := hto.owns
  simp only [List.nil_append] at ho
  have hm1 : Mod H H1 [] := ((Mod.push _ _).trans hto.mod).drop fun k hk hlt => by simp at hk; omega
  have hfr : ∀ c, blkOf v = some c → H.size ≤ c := fun c hc => by
    rcases hto.blk with h | h
    · rw [hc] at h; simp at h; omega
    · rw [hc] at h; simp at h; omega
  obtain ⟨b, n', c', rfl, hn'⟩ : ∃ b n' c', v = .slice (some ⟨b, 0, none⟩) n' c' ∧ n' = xs.length := by
    rcases ho with ⟨rfl, _⟩ | ⟨b, n, c, l, rfl, h1, _⟩
    · rcases hto.blk with h | h <;> simp at h
    · exact ⟨b, n, c, rfl, by simpa using h1.symm⟩
  subst hn'
  have hfb := hfr b rfl
  have hw0 : IntKind.i64.wrap ((xs.length : Int) - 1) = (xs.length : Int) - 1 := wrap_i64 _ (by omega) (by omega)
  simp [hw0]
  refine wpH_loop (fun s H' => ∃ j : Nat, j ≤ xs.length ∧ s = [i64 ((j : Int) - 1)] ∧ Owns H' 1 3 (.slice (some ⟨b, 0, none⟩) xs.length c') ((xs.take j ++ List.replicate (xs.length - j) 0).map i64) ∧
      nextL m xs = nextL m (xs.take j) ++ List.replicate (xs.length - j) 0 ∧ Mod H H' []) (fun s _ => (intOf (sl s 0) + 1).toNat) ⟨xs.length, Nat.le_refl _, rfl, by simpa using ho, by simp, hm1⟩ ?_
  rintro s H' ⟨j, hj, rfl, ho, hnx, hm⟩
  by_cases h0 : j = 0
  · subst h0
    simp at ho hnx
    try simp
    refine ⟨?_, hm, by intro c hc; simp at hc; omega, by simp [lenV, hnx, show nextL m [] = [] from rfl]⟩
    rw [hnx, show nextL m [] = [] from rfl]
    simpa using ho
  obtain ⟨i, rfl⟩ : ∃ i, j = i + 1 := ⟨j - 1, by omega⟩
  have hi : i < xs.length := by omega
  have hlen : (xs.take (i + 1) ++ List.replicate (xs.length - (i + 1)) 0).length = xs.length := by simp; omega
  have htk : xs.take (i + 1) = xs.take i ++ [xs[i]] := by rw [List.take_succ_eq_append_getElem hi]
  obtain ⟨_, cell⟩ := reads_cell ho.reads rfl
  obtain ⟨b', o', he, ok, cd⟩ := cell i (by omega)
  cases he
  have hg : (xs.take (i + 1) ++ List.replicate (xs.length - (i + 1)) 0).getD i 0 = xs[i] := by
    rw [htk]; simp [List.getD_eq_getElem?_getD, List.getElem?_append, show i < xs.length by omega, show min i xs.length = i by omega, show i < min (i + 1) xs.length by omega]
  rw [hg] at cd
  simp only [Nat.zero_add] at ok cd
  obtain ⟨xb0, xb1⟩ := hb xs[i] (List.getElem_mem hi)
  have w1 : IntKind.i64.wrap (xs[i] + 1) = xs[i] + 1 := wrap_i64 _ (by omega) (by omega)
  have w2 : IntKind.i64.wrap ((i : Int) - 1) = (i : Int) - 1 := wrap_i64 _ (by omega) (by omega)
  have ix := dry_indexA (P := prog) (b := b) (o := 0) (n := xs.length) (c := c') (k := .i64) (t := 33) sl_33 (show (0 : Int) ≤ (i : Int) by omega) (show (i : Int) < (xs.length : Int) by omega)
  simp only [Int.toNat_natCast, Nat.mul_one, Nat.zero_add] at ix
  obtain ⟨ho1, k1, k2, k3⟩ := ho.setInt (k := i) (by omega) (xs[i] + 1)
  obtain ⟨ho2, -, -, k4⟩ := ho1.setInt (k := i) (by simp; omega) 0
  have e1 : (xs.take (i + 1) ++ List.replicate (xs.length - (i + 1)) 0).set i (xs[i] + 1) = xs.take i ++ [xs[i] + 1] ++ List.replicate (xs.length - (i + 1)) 0 := by
    rw [htk, List.append_assoc, List.append_assoc, List.set_append_right _ _ (by simp; omega)]
    simp [show min i xs.length = i by omega]
  have e2 : ((xs.take (i + 1) ++ List.replicate (xs.length - (i + 1)) 0).set i (xs[i] + 1)).set i 0 = xs.take i ++ List.replicate (xs.length - i) 0 := by
    rw [e1, List.append_assoc, List.set_append_right _ _ (by simp; omega)]
    simp [show min i xs.length = i by omega]
    rw [show xs.length - i = (xs.length - (i + 1)) + 1 by omega, List.replicate_succ]
  rw [htk, nextL_snoc] at hnx
  have hcast : ((i + 1 : Nat) : Int) - 1 = (i : Int) := by omega
  have hge : ¬ (i : Int) < 0 := by omega
  rw [hcast]
  by_cases hlt : xs[i] + 1 < m
  · rw [if_pos hlt] at hnx
    simp [ix, ok, cd, w1, k2, hlt]
    rw [e1] at ho1
    refine ⟨by rw [hnx]; exact ho1, hm.behind k3 (by intro k hk hlt; simp at hk; omega), by intro c hc; simp at hc; omega, by rw [hnx]; simp [lenV]; omega⟩
  · rw [if_neg hlt] at hnx
    simp [ix, ok, cd, w1, k2, hlt, w2]
    rw [e2] at ho2
    refine ⟨⟨i, by omega, rfl, by simpa using ho2, ?_, (hm.behind k3 (by intro k hk hlt; simp at hk; omega)).behind k4 (by intro k hk hlt; simp at hk; omega)⟩, by simp [intOf]; omega⟩
    rw [hnx, show xs.length - i = (xs.length - (i + 1)) + 1 by omega, List.replicate_succ, List.append_assoc]
    try simp
end

end Go.Tr
