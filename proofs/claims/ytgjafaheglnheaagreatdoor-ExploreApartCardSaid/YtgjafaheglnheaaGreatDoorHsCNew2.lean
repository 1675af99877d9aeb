/- Package world: New's two loops. Conditions: those of New. -/
import Derived.Test.YtgjafaheglnheaaGreatDoorHsCNew
set_option maxRecDepth 20000
namespace Go.Tr
open Go.Proofs (Tryz.prog)

/-- The text of the first loop's body. -/
def ringsBody (b : Nat) (n : Value) (s2 : List Value) : T :=
  T.pure (N.bin BinOp.lss 3 (Operand.tmp 69) (Operand.tmp 68) (sl s2 0) n) fun v70 =>
    T.ite v70
      (T.pure (N.nilChk (ptr b)) fun v74 => T.pure (N.fieldA 193 v74 5) fun v75 => T.look (N.load 187 v75) fun v76 =>
        T.op [(N.load 187 v75, v76)] (N.callv (Value.func (Fn.func 156) #[] #[]) #[]) fun v77 =>
        T.op [(N.load 187 v75, v76)] (N.buildSlice 187 1 #[(0, v77)]) fun v78 =>
        T.op [] (N.builtin Builtin.append #[187, 187] 187 #[false, false] #[v76, v78]) fun v79 =>
        T.pure (N.nilChk (ptr b)) fun v80 => T.pure (N.fieldA 193 v80 5) fun v81 => T.op [] (N.store 187 v81 v79) fun _ =>
        T.pure (N.bin BinOp.gtr 3 (Operand.tmp 82) (Operand.const (Value.int IntKind.i64 0)) (sl s2 0) (Value.int IntKind.i64 0)) fun v83 =>
        T.ite v83
          (T.pure (N.nilChk (ptr b)) fun v85 => T.pure (N.fieldA 193 v85 9) fun v86 => T.look (N.load 147 v86) fun v87 =>
            T.op [] (N.callv (Value.func (Fn.func 157) #[] #[]) #[v87, sl s2 0]) fun _ =>
            T.pure (N.bin BinOp.add 3 (Operand.tmp 69) (Operand.const (Value.int IntKind.i64 1)) (sl s2 0) (Value.int IntKind.i64 1)) fun v33 => T.leaf none [v33])
          (T.pure (N.bin BinOp.add 3 (Operand.tmp 69) (Operand.const (Value.int IntKind.i64 1)) (sl s2 0) (Value.int IntKind.i64 1)) fun v33 => T.leaf none [v33]))
      (T.leaf (some 0) [sl s2 0])

/-- The idle processors once k of them were put. -/
def putPs (x : Idl) : Nat → Idl
  | 0 => x
  | k + 1 => let y := putPs x k
    if k = 0 then y else if !decide ((k : Int) ∈ y.pend) && (decide ((0 : Int) ≤ k ∧ (k : Int) < y.n) && (hasW y.n y.w k == false)) then { y with w := turnW y.w k } else y

/-- k rings are there. -/
structure RingsUp (H0 H : Heap) (L : Lay) (K : Spots) (x : Wm) (mv rv : Value) (k : Nat) : Prop where
  mid : Mid H0 H L K { x with idle := putPs x.idle k } (fun r => r = .mem ∨ r = .turns ∨ r = .flag ∨ r = .queue ∨ r = .source ∨ r = .idle ∨ ∃ p, p < k ∧ r = .ring p) (wcs x K mv rv (.slice none 0 0) (.slice none 0 0))
  owns : Owns H 1 264 rv ((List.range k).map fun p => ptr (L.rp p))
  col : ∀ c, blkOf rv = some c → L.col c = .rings

section
variable {H0 H : Heap} {L : Lay} {K : Spots} {x : Wm} {mv rv : Value} {k : Nat} {Q : List Value → Heap → Prop} {R : Option Nat → List Value → Heap → Prop}
theorem Mid.other {x : Wm} {D : Role → Prop} {wc : Array Value} {H' : Heap} {S : List Nat} (h : Mid H0 H L K x D wc) (m : Mod H H' S) (f : Nat → Role) (E : Role → Prop) (hS : ∀ k ∈ S, k < H.size → E (L.col k)) (hE : ∀ r, E r → ¬ D r)
    (hE0 : ¬ E .none) (hE1 : ¬ E .world) : Mid H0 H' (L.paint H.size f) K x D wc :=
  h.upd m f rfl h.spots ⟨rfl, rfl, rfl⟩ E hS hE0 hE1 h.parts.nw (fun _ hr _ => ⟨hr, fun hc => hc⟩) (fun r hr he => absurd hr (hE r he))

theorem rings_step (h : RingsUp H0 H L K x mv rv k) (hk : k < x.P) (hP : x.P ≤ 64) (hx : ∀ p, x.rings p = ⟨[], false, -1, 0⟩) (hpend : (putPs x.idle k).pend.length ≤ 2 ^ 34)
    (hK : ∀ H' L' rv', RingsUp H0 H' L' K x mv rv' (k + 1) → R none [i64 ((k + 1 : Nat) : Int)] H') : wpH Tryz.prog Q (ringsBody K.b (i64 x.P) [i64 k]) R H := by
  have hb : Blk H K.b _ _ := h.mid.blk
  unfold wcs at hb
  have hkx : (k : Int) < x.P := by omega
  have w1 : IntKind.i64.wrap ((k : Int) + 1) = ((k + 1 : Nat) : Int) := by rw [wrap_i64 _ (by omega) (by omega)]; simp
  have hbl := blk_lt hb
  simp [ringsBody, hk, blk_ok hb, blk_cell hb, Nat.blt]
  refine wpH_callW body_156 ?_
  refine ring_new.mono ?_
  rintro _ H1 ⟨rb, rfl, hr, m1, l1⟩
  have hb1 : Blk H1 K.b _ _ := m1.get hb (by simp)
  refine ⟨held_cons_load one_187 (by rw [blk_ok hb1]; rfl) (by rw [blk_cell hb1]; rfl) (held_nil _ _), ?_⟩
  have g1 := h.mid.upd (S := []) (L' := { L.paint H.size (fun _ => .ring k) with rp := setF L.rp k rb }) (x' := { x with idle := putPs x.idle k })
    (D' := fun r => r = .mem ∨ r = .turns ∨ r = .flag ∨ r = .queue ∨ r = .source ∨ r = .idle ∨ ∃ p, p < k + 1 ∧ r = .ring p) m1 (fun _ => .ring k) rfl h.mid.spots ⟨rfl, rfl, rfl⟩ (fun r => r = .ring k) (by simp) (by simp) (by simp) (by simp)
    (by
      intro r hr' hn
      rcases hr' with rfl | rfl | rfl | rfl | rfl | rfl | ⟨p, hp, rfl⟩
      · exact ⟨by simp, fun hc => hc⟩
      · exact ⟨by simp, fun hc => hc⟩
      · exact ⟨by simp, fun hc => hc⟩
      · exact ⟨by simp, fun hc => hc⟩
      · exact ⟨by simp, fun hc => hc⟩
      · exact ⟨by simp, fun hc => hc⟩
      · have hpk : p ≠ k := fun e => hn (by rw [e])
        refine ⟨by simp; omega, fun hc hpp => ?_⟩
        have := hc hpp
        show RingAt H1 (setF L.rp k rb p) _ ∧ _ = _
        simp only [setF_ne hpk]
        exact this)
    (by
      rintro r - rfl
      intro _
      show RingAt H1 (setF L.rp k rb k) (x.rings k) ∧ (L.paint H.size fun _ => .ring k).col (setF L.rp k rb k) = .ring k
      rw [setF_self, hx]
      exact ⟨hr, Lay.paint_new (f := fun _ => .ring k) l1⟩)
  have o1 : Owns H1 1 264 rv ((List.range k).map fun p => ptr (L.rp p)) := h.owns.of_mod m1 (by simp)
  have c1 : ∀ c, blkOf rv = some c → (L.paint H.size fun _ => .ring k).col c = .rings := fun c hc => (Lay.paint_old (h.owns.lt hc)).trans (h.col c hc)
  generalize hL1 : ({ L.paint H.size (fun _ => .ring k) with rp := setF L.rp k rb } : Lay) = L1 at g1
  have c1' : ∀ c, blkOf rv = some c → L1.col c = .rings := fun c hc => by rw [← hL1]; exact c1 c hc
  have e1 : L1.rp = setF L.rp k rb := by rw [← hL1]
  refine wpH_buildSliceW (bs_187_1 _) (held_cons_load one_187 (by rw [cellOk_push_old (blk_lt hb1), blk_ok hb1]; rfl) (by rw [cellD_push_old (blk_lt hb1), blk_cell hb1]; rfl) (held_nil _ _)) ?_
  have g2 := g1.other (Mod.push (.cells #[.pointer (some ⟨rb, 0, none⟩)] 264 (0, 0)) []) (fun _ => .none) (fun _ => False) (by simp) (by simp) (by simp) (by simp)
  have o2 := o1.of_mod (Mod.push (.cells #[.pointer (some ⟨rb, 0, none⟩)] 264 (0, 0)) []) (by simp)
  have c2 : ∀ c, blkOf rv = some c → (L1.paint H1.size fun _ => .none).col c = .rings := fun c hc => (Lay.paint_old (o1.lt hc)).trans (c1' c hc)
  have hlen : lenV rv = k := by
    rcases h.owns with ⟨rfl, hh⟩ | ⟨b', n, c, l', rfl, hh, _⟩
    · simp at hh; simp [lenV, hh]
    · simp at hh; simp [lenV, hh]
  refine wpH_append (ys := [ptr rb]) app_187_187 (by decide) (by decide) rfl o2 ?_ (by simp) (by rw [hlen]; simp [lenV]; omega) ?_
  · refine .inr ⟨H1.size, 0, 1, 1, rfl, rfl, ?_, ?_⟩
    · rw [blk_rowOk (get_push_new _ _)]; rfl
    · rw [blk_row (get_push_new _ _)]; rfl
  intro rv' H3 hto
  have g3 := g2.other hto.mod (fun _ => .rings) (fun r => r = .rings) (by intro c hc _; exact c2 c (by simpa using hc)) (by rintro r rfl; simp) (by simp) (by simp)
  have hb3 : Blk H3 K.b _ _ := g3.blk
  unfold wcs at hb3
  have hone : oneV rv' = true := by obtain ⟨a, n, c, rfl⟩ := hto.owns.shape; simp
  have hrb : L1.rp k = rb := by rw [e1, setF_self]
  have ho4 : Owns (setH H3 K.b 8 rv') 1 264 rv' ((List.range (k + 1)).map fun p => ptr (L1.rp p)) := by
    have e : (List.range (k + 1)).map (fun p => ptr (L1.rp p)) = (List.range k).map (fun p => ptr (L.rp p)) ++ [ptr rb] := by
      rw [List.range_succ, List.map_append]
      simp only [List.map_cons, List.map_nil, hrb]
      congr 1
      apply List.map_congr_left
      intro p hp
      rw [List.mem_range] at hp
      rw [e1, setF_ne (by omega)]
    rw [e]
    exact hto.owns.of_mod (Mod.setH K.b 8 rv' (S := [K.b]) (by simp)) fun c hc => by simp; rintro rfl; exact hto.owns.blk_ne hb3 (by decide) hc
  generalize hL3 : ((L1.paint H1.size fun _ => .none).paint (H1.push (.cells #[.pointer (some ⟨rb, 0, none⟩)] 264 (0, 0))).size fun _ => .rings) = L3 at g3
  have c3 : ∀ c, blkOf rv' = some c → L3.col c = .rings := fun c hc => by
    rw [← hL3]
    rcases hto.blk with hh | hh
    · rw [hh] at hc; exact (Lay.paint_old (o2.lt hc)).trans (c2 c hc)
    · rw [hh] at hc; cases hc; exact Lay.paint_new (f := fun _ => .rings) (Nat.le_refl _)
  have e3 : L3.rp = L1.rp := by rw [← hL3]; rfl
  have g4 : Mid H0 (setH H3 K.b 8 rv') (L3.paint H3.size fun _ => .none) K { x with idle := putPs x.idle k } _ (wcs x K mv rv' (.slice none 0 0) (.slice none 0 0)) := g3.store 8 rv'
  have hb4 : Blk (setH H3 K.b 8 rv') K.b _ _ := g4.blk
  unfold wcs at hb4
  have c4 : ∀ c, blkOf rv' = some c → (L3.paint H3.size fun _ => .none).col c = .rings := fun c hc => (Lay.paint_old (hto.owns.lt hc)).trans (c3 c hc)
  simp [blk_ok hb3, blk_free hb3, hone, Nat.blt, blk_ok hb4, blk_cell hb4, w1]
  generalize setH H3 K.b 8 rv' = H4 at *
  have e4 : (L3.paint H3.size fun _ => Role.none).rp = L1.rp := e3
  generalize (L3.paint H3.size fun _ => Role.none) = L4 at *
  by_cases hk0 : 0 < k
  · simp [hk0]
    obtain ⟨hi, hic⟩ := g4.parts.comp .idle (by simp)
    have hKi : K.ib = L4.ib := by rw [← g4.spots]; rfl
    rw [hKi]
    refine (idle_putP hi hpend).mono ?_
    rintro _ H5 ⟨-, t⟩
    obtain ⟨kk, rfl⟩ : ∃ kk, k = kk + 1 := ⟨k - 1, by omega⟩
    have hlt := hi.lt
    have g5 := g4.upd (L' := L4.paint H4.size (fun _ => .idle)) (x' := { x with idle := putPs x.idle (kk + 1 + 1) })
      (D' := fun r => r = .mem ∨ r = .turns ∨ r = .flag ∨ r = .queue ∨ r = .source ∨ r = .idle ∨ ∃ p, p < kk + 1 + 1 ∧ r = .ring p) t.mod (fun _ => .idle) rfl g4.spots ⟨rfl, rfl, rfl⟩ (fun r => r = .idle)
      (fun c hc _ => hic c hc) (by simp) (by simp) (by simp)
      (by
        intro r hr' hn
        rcases hr' with rfl | rfl | rfl | rfl | rfl | rfl | ⟨p, hp, rfl⟩
        · exact ⟨by simp, fun hc => hc⟩
        · exact ⟨by simp, fun hc => hc⟩
        · exact ⟨by simp, fun hc => hc⟩
        · exact ⟨by simp, fun hc => hc⟩
        · exact ⟨by simp, fun hc => hc⟩
        · exact absurd rfl hn
        · exact ⟨by simp; omega, fun hc => hc⟩)
      (by
        rintro r - rfl
        refine ⟨?_, fun c hc => (Lay.paint_old (f := fun _ => .idle) (hlt c hc)).trans (hic c hc)⟩
        have := t.now
        show IdleAt H5 L4.ib L4.im L4.iw L4.pv L4.mv (putPs x.idle (kk + 1 + 1))
        unfold putPs
        simpa using this)
    have ho5 : Owns H5 1 264 rv' ((List.range (kk + 1 + 1)).map fun p => ptr (L1.rp p)) := ho4.of_mod t.mod fun c hc hm => by
      have a := hic c hm
      have b := c4 c hc
      rw [b] at a; cases a
    refine hK H5 _ rv' ⟨g5, ?_, fun c hc => (Lay.paint_old (f := fun _ => .idle) (ho4.lt hc)).trans (c4 c hc)⟩
    rw [show (L4.paint H4.size fun _ => Role.idle).rp = L1.rp from e4]
    exact ho5
  · have : k = 0 := by omega
    subst this
    simp
    refine hK H4 _ rv' ⟨g4, ?_, c4⟩
    rw [e4]
    exact ho4
end

end Go.Tr
