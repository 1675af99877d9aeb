/- Package world: New's second loop. Conditions: those of New. -/
import Derived.Test.YtgjafaheglnheaaGreatDoorHsCNew2
set_option maxRecDepth 20000
namespace Go.Tr
open Go.Proofs (Tryz.prog)

/-- The text of the second loop's body. -/
def machsBody (b : Nat) (n : Value) (s4 : List Value) : T :=
  T.pure (N.bin BinOp.lss 3 (Operand.tmp 93) (Operand.tmp 92) (sl s4 0) n) fun v94 =>
    T.ite v94
      (T.pure (N.nilChk (ptr b)) fun v98 => T.pure (N.fieldA 193 v98 10) fun v99 => T.look (N.load 189 v99) fun v100 =>
        T.op [(N.load 189 v99, v100)] (N.callv (Value.func (Fn.func 129) #[] #[]) #[]) fun v101 =>
        T.op [(N.load 189 v99, v100)] (N.buildSlice 189 1 #[(0, v101)]) fun v102 =>
        T.op [] (N.builtin Builtin.append #[189, 189] 189 #[false, false] #[v100, v102]) fun v103 =>
        T.pure (N.nilChk (ptr b)) fun v104 => T.pure (N.fieldA 193 v104 10) fun v105 => T.op [] (N.store 189 v105 v103) fun _ =>
        T.pure (N.bin BinOp.gtr 3 (Operand.tmp 106) (Operand.const (Value.int IntKind.i64 0)) (sl s4 0) (Value.int IntKind.i64 0)) fun v107 =>
        T.ite v107
          (T.pure (N.nilChk (ptr b)) fun v109 => T.pure (N.fieldA 193 v109 9) fun v110 => T.look (N.load 147 v110) fun v111 =>
            T.op [] (N.callv (Value.func (Fn.func 158) #[] #[]) #[v111, sl s4 0]) fun _ =>
            T.pure (N.bin BinOp.add 3 (Operand.tmp 93) (Operand.const (Value.int IntKind.i64 1)) (sl s4 0) (Value.int IntKind.i64 1)) fun v114 => T.leaf none [v114])
          (T.pure (N.bin BinOp.add 3 (Operand.tmp 93) (Operand.const (Value.int IntKind.i64 1)) (sl s4 0) (Value.int IntKind.i64 1)) fun v114 => T.leaf none [v114]))
      (T.leaf (some 2) [sl s4 0])

/-- The idle machines once k of them were stopped. -/
def stopMs (x : Idl) : Nat → Idl
  | 0 => x
  | k + 1 => if k = 0 then stopMs x k else (stopMs x k).stop k

/-- k machines are there. -/
structure MachsUp (H0 H : Heap) (L : Lay) (K : Spots) (x : Wm) (D : Role → Prop) (mv rv av : Value) (k : Nat) : Prop where
  mid : Mid H0 H L K { x with idle := stopMs x.idle k } (fun r => r = .idle ∨ D r) (wcs x K mv rv av (.slice none 0 0))
  owns : Owns H 18 98 av ((List.range k).flatMap fun _ => Mc.fresh.cs (.slice none 0 0))
  col : ∀ c, blkOf av = some c → L.col c = .all

section
variable {H0 H : Heap} {L : Lay} {K : Spots} {x : Wm} {D : Role → Prop} {mv rv av : Value} {k : Nat} {Q : List Value → Heap → Prop} {R : Option Nat → List Value → Heap → Prop}

theorem range_flat (k : Nat) (l : List Value) : ((List.range k).flatMap fun _ => l).length = k * l.length := by
  induction k with
  | zero => simp
  | succ k ih => rw [List.range_succ, List.flatMap_append, List.length_append, ih]; simp [Nat.succ_mul]

theorem machs_step (h : MachsUp H0 H L K x D mv rv av k) (hk : k < x.M) (hM : x.M ≤ 128) (hD : ¬ D .all) (hDi : ¬ D .idle) (hms : (stopMs x.idle k).ms.length ≤ 2 ^ 34)
    (hK : ∀ H' L' av', MachsUp H0 H' L' K x D mv rv av' (k + 1) → R none [i64 ((k + 1 : Nat) : Int)] H') : wpH Tryz.prog Q (machsBody K.b (i64 x.M) [i64 k]) R H := by
  have hb : Blk H K.b _ _ := h.mid.blk
  unfold wcs at hb
  have w1 : IntKind.i64.wrap ((k : Int) + 1) = ((k + 1 : Nat) : Int) := by rw [wrap_i64 _ (by omega) (by omega)]; simp
  have hbl := blk_lt hb
  have hl18 : (Mc.fresh.cs (.slice none 0 0)).length = 18 := rfl
  have hlen : lenV av = k := by
    have h1 := range_flat k (Mc.fresh.cs (.slice none 0 0))
    rw [hl18] at h1
    rcases h.owns with ⟨rfl, hh⟩ | ⟨b', n, c, l', rfl, hh, _⟩
    · rw [hh] at h1; simp [lenV] at h1 ⊢; omega
    · simp [lenV]; omega
  simp [machsBody, hk, blk_ok hb, blk_cell hb, Nat.blt]
  refine wpH_callW body_129 ?_
  refine mach_fresh.mono ?_
  rintro _ H1 ⟨rfl, m1⟩
  have hb1 : Blk H1 K.b _ _ := m1.get hb (by simp)
  refine ⟨held_cons_load one_189 (by rw [blk_ok hb1]; rfl) (by rw [blk_cell hb1]; rfl) (held_nil _ _), ?_⟩
  have g1 := h.mid.other m1 (fun _ => .none) (fun _ => False) (by simp) (by simp) (by simp) (by simp)
  have o1 := h.owns.of_mod m1 (by simp)
  have c1 : ∀ c, blkOf av = some c → (L.paint H.size fun _ => .none).col c = .all := fun c hc => (Lay.paint_old (h.owns.lt hc)).trans (h.col c hc)
  generalize (L.paint H.size fun _ => Role.none) = L1 at *
  refine wpH_buildSliceW (bs_189_1 _ _ _ _ _ _ _ _ _ _ _ _ _ _ _ _ _ _ _ _) (held_cons_load one_189 (by rw [cellOk_push_old (blk_lt hb1), blk_ok hb1]; rfl) (by rw [cellD_push_old (blk_lt hb1), blk_cell hb1]; rfl) (held_nil _ _)) ?_
  have g2 := g1.other (Mod.push (.cells (Mc.fresh.cs (.slice none 0 0)).toArray 98 (0, 0)) []) (fun _ => .none) (fun _ => False) (by simp) (by simp) (by simp) (by simp)
  have o2 := o1.of_mod (Mod.push (.cells (Mc.fresh.cs (.slice none 0 0)).toArray 98 (0, 0)) []) (by simp)
  have c2 : ∀ c, blkOf av = some c → (L1.paint H1.size fun _ => .none).col c = .all := fun c hc => (Lay.paint_old (o1.lt hc)).trans (c1 c hc)
  refine wpH_append (ys := Mc.fresh.cs (.slice none 0 0)) app_189_189 (by decide) (by decide) rfl o2 ?_ (by simp [Mc.cs, Mc.fresh]) (by rw [hlen]; simp [lenV]; omega) ?_
  · refine .inr ⟨H1.size, 0, 1, 1, rfl, rfl, ?_, ?_⟩
    · rw [blk_rowOk (get_push_new _ _)]; rfl
    · rw [blk_row (get_push_new _ _)]; rfl
  intro av' H3 hto
  have g3 := g2.other hto.mod (fun _ => .all) (fun r => r = .all) (by intro c hc _; exact c2 c (by simpa using hc)) (by rintro r rfl; simp; exact hD) (by simp) (by simp)
  have c3 : ∀ c, blkOf av' = some c → ((L1.paint H1.size fun _ => .none).paint (H1.push (.cells (Mc.fresh.cs (.slice none 0 0)).toArray 98 (0, 0))).size fun _ => .all).col c = .all := fun c hc => by
    rcases hto.blk with hh | hh
    · rw [hh] at hc; exact (Lay.paint_old (o2.lt hc)).trans (c2 c hc)
    · rw [hh] at hc; cases hc; exact Lay.paint_new (f := fun _ => .all) (Nat.le_refl _)
  generalize ((L1.paint H1.size fun _ => Role.none).paint (H1.push (.cells (Mc.fresh.cs (.slice none 0 0)).toArray 98 (0, 0))).size fun _ => Role.all) = L3 at g3 c3
  have hb3 : Blk H3 K.b _ _ := g3.blk
  unfold wcs at hb3
  have hone : oneV av' = true := by obtain ⟨a, n, c, rfl⟩ := hto.owns.shape; simp
  have ho4 : Owns (setH H3 K.b 13 av') 18 98 av' ((List.range (k + 1)).flatMap fun _ => Mc.fresh.cs (.slice none 0 0)) := by
    rw [List.range_succ, List.flatMap_append]
    simp only [List.flatMap_cons, List.flatMap_nil, List.append_nil]
    exact hto.owns.of_mod (Mod.setH K.b 13 av' (S := [K.b]) (by simp)) fun c hc => by simp; rintro rfl; exact hto.owns.blk_ne hb3 (by decide) hc
  have g4 : Mid H0 (setH H3 K.b 13 av') (L3.paint H3.size fun _ => .none) K { x with idle := stopMs x.idle k } _ (wcs x K mv rv av' (.slice none 0 0)) := g3.store 13 av'
  have hb4 : Blk (setH H3 K.b 13 av') K.b _ _ := g4.blk
  unfold wcs at hb4
  have c4 : ∀ c, blkOf av' = some c → (L3.paint H3.size fun _ => .none).col c = .all := fun c hc => (Lay.paint_old (hto.owns.lt hc)).trans (c3 c hc)
  simp [blk_ok hb3, blk_free hb3, hone, Nat.blt, blk_ok hb4, blk_cell hb4, w1]
  generalize setH H3 K.b 13 av' = H4 at *
  generalize (L3.paint H3.size fun _ => Role.none) = L4 at *
  by_cases hk0 : 0 < k
  · simp [hk0]
    obtain ⟨hi, hic⟩ := g4.parts.comp .idle (.inl rfl)
    have hKi : K.ib = L4.ib := by rw [← g4.spots]; rfl
    rw [hKi]
    refine (idle_stop hi hms).mono ?_
    rintro _ H5 ⟨-, mv', t⟩
    have hlt := hi.lt
    have g5 : Mid H0 H5 { L4.paint H4.size (fun _ => .idle) with mv := mv' } K { x with idle := stopMs x.idle (k + 1) } (fun r => r = .idle ∨ D r) (wcs x K mv rv av' (.slice none 0 0)) := by
      refine g4.upd t.mod (fun _ => .idle) rfl g4.spots ⟨rfl, rfl, rfl⟩ (fun r => r = .idle) (fun c hc _ => hic c hc) (by simp) (by simp) g4.parts.nw ?_ ?_
      · intro r hr hn
        refine ⟨hr, fun hc => ?_⟩
        cases r <;> first | exact hc | exact absurd rfl hn
      · rintro r - rfl
        refine ⟨?_, fun c hc => ?_⟩
        · show IdleAt H5 L4.ib L4.im L4.iw L4.pv mv' (stopMs x.idle (k + 1))
          unfold stopMs
          rw [if_neg (by omega)]
          exact t.now
        · show (L4.paint H4.size fun _ => .idle).col c = .idle
          rcases t.foot c hc with hh | hh
          · exact (Lay.paint_old (hlt c hh)).trans (hic c hh)
          · exact Lay.paint_new (f := fun _ => .idle) hh
    refine hK H5 _ av' ⟨g5, ho4.of_mod t.mod fun c hc hm => ?_, fun c hc => (Lay.paint_old (f := fun _ => .idle) (ho4.lt hc)).trans (c4 c hc)⟩
    have a := hic c hm
    rw [c4 c hc] at a
    cases a
  · have : k = 0 := by omega
    subst this
    simp
    exact hK H4 _ av' ⟨g4, ho4, c4⟩
end

end Go.Tr
