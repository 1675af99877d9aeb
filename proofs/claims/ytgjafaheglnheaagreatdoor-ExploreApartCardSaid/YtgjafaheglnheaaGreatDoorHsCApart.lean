/- The law ExploreApart answers true, given that the example lives. Conditions: the program's tables are laid. -/
import Derived.Test.YtgjafaheglnheaaGreatDoorHsCKeys
import Derived.Test.YtgjafaheglnheaaGreatDoorHsCLaw28
set_option maxRecDepth 20000
namespace Go.Tr
open Go
open Go.Proofs.Tryz (prog)

theorem digs_lt {m : Nat} (hm : 0 < m) : ∀ {k i d : Nat}, d ∈ digs m k i → d < m
  | 0, _, _, h => by simp [digs] at h
  | k + 1, i, d, h => by
    simp only [digs, List.mem_cons] at h
    rcases h with rfl | h
    · exact Nat.mod_lt _ hm
    · exact digs_lt hm h
theorem digs_inj {m : Nat} (hm : 0 < m) : ∀ {k i j : Nat}, i < m ^ k → j < m ^ k → digs m k i = digs m k j → i = j
  | 0, i, j, hi, hj, _ => by simp at hi hj; omega
  | k + 1, i, j, hi, hj, h => by
    rw [digs_snoc, digs_snoc] at h
    obtain ⟨h1, h2⟩ := List.append_inj' h rfl
    have e1 : i % m = j % m := by simpa using h2
    have q : ∀ a, a < m ^ (k + 1) → a / m < m ^ k := fun a ha => Nat.div_lt_of_lt_mul (by rwa [Nat.mul_comm, ← Nat.pow_succ])
    have e2 := digs_inj hm (q i hi) (q j hj) h1
    rw [← Nat.div_add_mod i m, ← Nat.div_add_mod j m, e1, e2]

/-- A row of at most five as a key. -/
def pad (l : List Int) : Five := (l.getD 0 0, l.getD 1 0, l.getD 2 0, l.getD 3 0, l.getD 4 0)
theorem pad_inj {l l' : List Int} (h : l.length = l'.length) (h5 : l.length ≤ 5) (e : pad l = pad l') : l = l' := by
  apply List.ext_getElem h
  intro i h1 h2
  simp only [pad, Prod.mk.injEq] at e
  obtain ⟨e0, e1, e2, e3, e4⟩ := e
  have : i = 0 ∨ i = 1 ∨ i = 2 ∨ i = 3 ∨ i = 4 := by omega
  rcases this with rfl | rfl | rfl | rfl | rfl
  · simpa [List.getD_eq_getElem?_getD, h1, h2] using e0
  · simpa [List.getD_eq_getElem?_getD, h1, h2] using e1
  · simpa [List.getD_eq_getElem?_getD, h1, h2] using e2
  · simpa [List.getD_eq_getElem?_getD, h1, h2] using e3
  · simpa [List.getD_eq_getElem?_getD, h1, h2] using e4
/-- The cells of the key while it is filled. -/
def fill (l : List Int) (k : Nat) : List Value := (l.take k).map i64 ++ List.replicate (5 - k) (i64 0)
theorem fill_end {l : List Int} (h : l.length ≤ 5) : Value.agg (fill l l.length).toArray = five (pad l) := by
  match l, h with
  | [], _ => rfl
  | [a], _ => rfl
  | [a, b], _ => rfl
  | [a, b, c], _ => rfl
  | [a, b, c, d], _ => rfl
  | [a, b, c, d, e], _ => rfl
theorem fill_len {l : List Int} {k : Nat} (hk : k ≤ l.length) (h : l.length ≤ 5) : (fill l k).length = 5 := by simp [fill]; omega
theorem fill_set {l : List Int} {k : Nat} (hk : k < l.length) (h : l.length ≤ 5) : (fill l k).set k (i64 l[k]) = fill l (k + 1) := by
  apply List.ext_getElem?
  intro i
  unfold fill
  rw [List.getElem?_set]
  by_cases hi : k = i
  · subst hi
    have : k < ((l.take k).map i64 ++ List.replicate (5 - k) (i64 0)).length := by simp; omega
    rw [if_pos rfl, if_pos this, List.getElem?_append_left (by simp; omega)]
    simp [hk]
  · rw [if_neg hi]
    by_cases h1 : i < k
    · rw [List.getElem?_append_left (by simp; omega), List.getElem?_append_left (by simp; omega)]
      simp [h1, show i < k + 1 by omega]
    · rw [List.getElem?_append_right (by simp; omega), List.getElem?_append_right (by simp; omega)]
      simp only [List.length_map, List.length_take, List.getElem?_replicate]
      have e1 : min k l.length = k := by omega
      have e2 : min (k + 1) l.length = k + 1 := by omega
      rw [e1, e2]
      by_cases h5 : i < 5
      · rw [if_pos (by omega), if_pos (by omega)]
      · rw [if_neg (by omega), if_neg (by omega)]

theorem key_five : KeyX prog 35 five := keyX_five (by kernel_rfl) (et := 3) (by kernel_rfl) (i := (prog.info? 3).getD default) (by kernel_rfl) (by kernel_rfl)
theorem map_32 : prog.underlying 32 = some (.map 35 3) := by kernel_rfl
theorem zero_3' : zeroT prog 3 = some (i64 0) := by kernel_rfl


theorem held_cons_lookup {P : Program} {α : Type} [DecidableEq α] {enc : α → Value} {t kt et : TypeId} {b c : Nat} {es : List (Ent α)} {a : α} {z v : Value} {ws : List (N × Value)} {H : Heap}
    (K : KeyX P kt enc) (ht : P.underlying t = some (.map kt et)) (hz : zeroT P et = some z) (h : MapR enc H b es c) (hv : ((findE a es 0).map (·.2)).getD z = v) (hw : Held P ws H) :
    Held P ((.lookup t (.map (some b)) (enc a) false, v) :: ws) H := by
  intro x hx w hw'
  rcases List.mem_cons.1 hx with rfl | hx
  · subst hw'; subst hv; simp [N.sem, run_lookup K ht hz h false]
  · exact hw x hx w hw'
theorem findE_last {α : Type} [DecidableEq α] {a : α} {v : Value} {s : Nat} : ∀ {es : List (Ent α)} {i : Nat}, findE a es i = none → findE a (es ++ [(a, v, s)]) i = some (i + es.length, v)
  | [], i, _ => by simp [findE]
  | e :: es, i, h => by
    simp only [findE] at h
    split at h
    · cases h
    · rename_i h1
      simp only [List.cons_append, findE, h1, if_false]
      rw [findE_last h]
      simp; omega

/-- All keys so far are of orders ahead of k. -/
def Behind (M n k : Nat) (es : List (Ent Five)) : Prop := ∀ e ∈ es, ∃ j, j < k ∧ e.1 = pad (digsI M n j)
section
variable {gb : Nat} {H : Heap}
theorem explore_apart (L : Lives20) (h : Glob gb H) {x y : Int} (hx0 : 0 ≤ x) (hx : x < 256) (hy0 : 0 ≤ y) (hy : y < 256) : CallsH prog 4 #[.int .u8 x, .int .u8 y] H fun v H' => v = .bool true ∧ Mod H H' [] := by
  apply calls4
  simp only [t4]
  rw [wpH_call_eq body_29]
  refine (lives28 L h).mono ?_
  rintro _ H1 ⟨rfl, m1⟩
  obtain ⟨mn, hm, hm1, hm5⟩ : ∃ mn : Nat, x.tmod 5 = mn ∧ 0 ≤ mn ∧ mn < 5 := ⟨(x.tmod 5).toNat, by rw [Int.tmod_eq_emod_of_nonneg hx0]; omega, by omega, by rw [Int.tmod_eq_emod_of_nonneg hx0]; omega⟩
  obtain ⟨n, hn, hn6⟩ : ∃ n : Nat, y.tmod 6 = n ∧ n < 6 := ⟨(y.tmod 6).toNat, by rw [Int.tmod_eq_emod_of_nonneg hy0]; omega, by rw [Int.tmod_eq_emod_of_nonneg hy0]; omega⟩
  obtain ⟨m, rfl⟩ : ∃ m : Nat, mn + 1 = m := ⟨mn + 1, rfl⟩
  have w1 : IntKind.i64.wrap (mn : Int) = mn := wrap_i64 _ (by omega) (by omega)
  have w2 : IntKind.i64.wrap (1 + (mn : Int)) = ((mn + 1 : Nat) : Int) := by rw [wrap_i64 _ (by omega) (by omega)]; omega
  have e12 : (mn : Int) + 1 = ((mn + 1 : Nat) : Int) := rfl
  have w3 : IntKind.i64.wrap (n : Int) = n := wrap_i64 _ (by omega) (by omega)
  simp [dry_rem _ _ _ _ _ _ (show (5 : Int) ≠ 0 by decide), dry_rem _ _ _ _ _ _ (show (6 : Int) ≠ 0 by decide), hm, hn, w1, w2, w3]
  rw [e12]
  generalize hM : mn + 1 = M
  have hM5 : 1 ≤ M ∧ M ≤ 5 := by omega
  obtain ⟨C, hC, hC1, hC2⟩ : ∃ C : Nat, C = M ^ n ∧ 1 ≤ C ∧ C ≤ 3125 := by
    refine ⟨M ^ n, rfl, Nat.one_le_pow _ _ (by omega), ?_⟩
    calc M ^ n ≤ 5 ^ n := Nat.pow_le_pow_left hM5.2 n
      _ ≤ 5 ^ 5 := Nat.pow_le_pow_right (by omega) (by omega)
  have hcnt : cnt (M : Int) (n : Int) = C := by
    unfold cnt
    rw [if_neg (by omega)]
    simp only [Int.toNat_natCast, ← hC]
    rw [if_pos (by omega)]
  refine (count_spec (by omega)).mono ?_
  rintro _ H1' ⟨rfl, h1⟩
  rw [h1]
  clear h1 H1'
  rw [hcnt]
  have c1 : ¬ ((C : Int) < 1) := by omega
  have c2 : ¬ ((4096 : Int) < C) := by omega
  simp [c1, c2]
  refine wpH_loop (fun s H' => ∃ (k : Nat) (es : List (Ent Five)) (c : Nat), s = [i64 k] ∧ k ≤ C ∧ es.length = k ∧ Behind M n k es ∧ MapR five H' H1.size es c ∧ Mod H H' []) (fun s _ => ((C : Int) - intOf (sl s 0)).toNat)
    ⟨0, [], 0, rfl, by omega, rfl, by simp [Behind], MapR.new, m1.trans (Mod.push _ _)⟩ ?_
  rintro s H2 ⟨k, es, c, rfl, hk, hlen, hes, hmap, m2⟩
  by_cases hlt : k < C
  · have hlt' : (k : Int) < C := by omega
    simp [hlt']
    refine (order_spec (by omega)).mono ?_
    rintro v H3 h3
    have e : orderL M n k = digsI M n k := by unfold orderL; rw [hcnt, if_neg (by omega)]; simp
    rw [e] at h3
    obtain ⟨vb, vn, vc, rfl⟩ := h3.owns.shape
    have hvn : vn = n := by have := h3.len; simpa [lenV] using this
    subst hvn
    try simp
    rw [wpH_alloc zero_35]
    try simp
    refine wpH_loop (fun s H' => ∃ i : Nat, s = [i64 i] ∧ i ≤ vn ∧ H'[H3.size]? = some (.cells (fill (digsI M vn k) i).toArray 35 (0, 0)) ∧ Mod H3 H' []) (fun s _ => ((vn : Int) - intOf (sl s 0)).toNat)
      ⟨0, rfl, by omega, by rw [get_push_new]; simp [fill, List.replicate, Value.cells], Mod.push _ _⟩ ?_
    rintro s H4 ⟨i, rfl, hi, hb, m4⟩
    have hdl : (digsI M vn k).length = vn := by simp
    by_cases hlt2 : i < vn
    · have hlt2' : (i : Int) < vn := by omega
      have ho4 := (h3.owns.of_mod m4 (by simp)).reads
      obtain ⟨-, cx⟩ := reads_cell ho4 rfl
      obtain ⟨b, o, rfl, ok1, cd1⟩ := cx i (by simpa using hlt2)
      have ix1 := dry_indexA (P := prog) (b := b) (o := o) (n := vn) (c := vc) (k := .i64) (t := 33) sl_33 (show (0 : Int) ≤ (i : Int) by omega) hlt2'
      simp only [Int.toNat_natCast, Nat.mul_one] at ix1
      have hget : (digsI M vn k).getD i 0 = (digsI M vn k)[i]'(by omega) := by simp [List.getD_eq_getElem?_getD, hlt2]
      rw [hget] at cd1
      have hd : 0 ≤ (digsI M vn k)[i]'(by omega) ∧ (digsI M vn k)[i]'(by omega) < (M : Int) := by
        have hm : (digsI M vn k)[i]'(by omega) ∈ digsI M vn k := List.getElem_mem _
        obtain ⟨d, hd, e⟩ := List.mem_map.1 hm
        have := digs_lt (by omega) hd
        omega
      have n1 : ¬ (digsI M vn k)[i]'(by omega) < 0 := by omega
      have n2 : ¬ (M : Int) ≤ (digsI M vn k)[i]'(by omega) := by omega
      have hw : IntKind.i64.wrap ((i : Int) + 1) = ((i + 1 : Nat) : Int) := by rw [wrap_i64 _ (by omega) (by omega)]; simp
      have hok : cellOk H4 H3.size i = true := cellOk_list hb (by rw [fill_len (by omega) (by omega)]; omega)
      have hfr : cellFree H4 H3.size i = true := by simp [cellFree, hb]
      simp [hlt2', ix1, ok1, cd1, n1, n2, dry_indexArr arr_35 (show (0 : Int) ≤ (i : Int) by omega) (show (i : Int) < (5 : Nat) by omega), hok, hfr, hw]
      have hb5 := get_setH_list (v := i64 ((digsI M vn k)[i]'(by omega))) (i := i) hb
      rw [fill_set (by omega) (by omega)] at hb5
      refine ⟨⟨i + 1, by simp, by omega, hb5, ?_⟩, by simp [intOf]; omega⟩
      exact ((m4.mono (S' := [H3.size]) (by simp)).trans (Mod.setH H3.size _ _ (by simp))).drop (by simp)
    · have hie : i = vn := by omega
      subst hie
      have hL : i = (digsI M i k).length := hdl.symm
      have hrow : Value.agg (rowD H4 H3.size 0 5) = five (pad (digsI M i k)) := by
        rw [← fill_end (by omega), ← hL, blk_row hb]
        have := fill_len (show i ≤ (digsI M i k).length by omega) (show (digsI M i k).length ≤ 5 by omega)
        simp [List.take_of_length_le (Nat.le_of_eq this)]
      simp
      rw [wpH_loadAgg_eq agg_35 (by rw [blk_rowOk hb]; simp [fill_len (show i ≤ (digsI M i k).length by omega) (show (digsI M i k).length ≤ 5 by omega)]), hrow]
      have hmap4 := (hmap.of_mod h3.mod (by simp)).of_mod m4 (by simp)
      have hf : findE (pad (digsI M i k)) es 0 = none := by
        rw [findE_none]
        intro e he hee
        obtain ⟨j, hj, e2⟩ := hes e he
        rw [e2] at hee
        have e3 := pad_inj (by simp) (by simp; omega) hee
        have e4 : digs M i j = digs M i k := by
          unfold digsI at e3
          exact (List.map_inj_right (fun a b h => by have h' : (a : Int) = (b : Int) := h; omega)).1 e3
        have := digs_inj (by omega) (by rw [← hC]; omega) (by rw [← hC]; omega) e4
        omega
      have hw1 : IntKind.i64.wrap (0 + 1) = 1 := by decide
      rw [wpH_lookup key_five map_32 zero_3 hmap4, hf]
      simp [hw1]
      have hf2 : findE (pad (digsI M i k)) (es ++ [(pad (digsI M i k), i64 0, c)]) 0 = some (es.length, i64 0) := by simpa using findE_last (v := i64 0) (s := c) hf
      refine wpH_mapEntry_new key_five map_32 zero_3 hmap4 hf ?_ fun hmap5 => ?_
      · refine held_cons_lookup key_five map_32 zero_3 (c := c + 1) (es := es ++ [(pad (digsI M i k), i64 0, c)]) ?_ (by rw [hf2]; rfl) (held_nil _ _)
        have := hmap4.put (a := pad (digsI M i k)) (v := i64 0)
        simpa only [putE, putC, hf, Option.isSome_none, Bool.false_eq_true, if_false] using this
      · simp
        refine wpH_entryStore hmap5 (j := es.length) (s := c) (a := pad (digsI M i k)) (v0 := i64 0) (by simp) fun hmap6 => ?_
        have hw : IntKind.i64.wrap ((k : Int) + 1) = ((k + 1 : Nat) : Int) := by rw [wrap_i64 _ (by omega) (by omega)]; simp
        simp [hw]
        have mm := ((m2.trans h3.mod).trans m4)
        refine ⟨⟨k + 1, by simp, by omega, _, ?_, ?_, ⟨_, hmap6⟩, ?_⟩, by simp [intOf]; omega⟩
        · simp [hlen]
        · intro e he
          obtain ⟨q, hq⟩ := List.mem_iff_getElem?.1 he
          rw [List.getElem?_modify] at hq
          by_cases hqe : q < es.length
          · rw [List.getElem?_append_left hqe] at hq
            simp [show ¬ es.length = q by omega] at hq
            obtain ⟨j, hj, e2⟩ := hes e (List.mem_iff_getElem?.2 ⟨q, hq⟩)
            exact ⟨j, by omega, e2⟩
          · have hq2 : q = es.length := by
              rcases Nat.lt_or_ge es.length q with h1 | h1
              · rw [List.getElem?_eq_none (by simp; omega)] at hq; simp at hq
              · omega
            subst hq2
            simp at hq
            exact ⟨k, by omega, by rw [← hq]⟩
        · exact ((mm.mono (S' := [H1.size]) (by simp)).trans ((Mod.setM (by simp)).trans (Mod.setM (by simp)))).drop (by
            intro q hq hq2
            simp at hq
            subst hq
            have := m1.size
            omega)
  · have hke : k = C := by omega
    subst hke
    simp
    rw [wpH_mapLen map_32 hmap]
    simp [hlen]
    exact m2
end
end Go.Tr
