/- Package world: New as a whole. Conditions: the program's tables are laid; the config may be. -/
import Derived.Test.YtgjafaheglnheaaGreatDoorHsCNew5
import Derived.Test.YtgjafaheglnheaaGreatDoorHsCNewT
set_option maxRecDepth 20000
namespace Go.Tr
open Go.Proofs (Tryz.prog)

def RI (H0 : Heap) (K : Spots) (x : Wm) (mv : Value) (s : List Value) (H' : Heap) : Prop := ∃ (k : Nat) (rv : Value) (L : Lay), s = [i64 k] ∧ k ≤ x.P ∧ RingsUp H0 H' L K x mv rv k
def MI (H0 : Heap) (K : Spots) (x : Wm) (D : Role → Prop) (mv rv : Value) (s : List Value) (H' : Heap) : Prop := ∃ (k : Nat) (av : Value) (L : Lay), s = [i64 k] ∧ k ≤ x.M ∧ MachsUp H0 H' L K x D mv rv av k
theorem stopMs_ms (x : Idl) : ∀ k, (stopMs x k).ms.length ≤ x.ms.length + k
  | 0 => by simp [stopMs]
  | k + 1 => by
    have := stopMs_ms x k
    unfold stopMs
    split
    · omega
    · unfold Idl.stop
      split
      · omega
      · split
        · simp; omega
        · simp; omega
theorem putPs_ms (x : Idl) : ∀ k, (putPs x k).ms = x.ms
  | 0 => rfl
  | k + 1 => by
    have := putPs_ms x k
    unfold putPs
    dsimp only
    split
    · exact this
    · split <;> exact this
theorem putPs_pend (x : Idl) : ∀ k, (putPs x k).pend = x.pend
  | 0 => rfl
  | k + 1 => by
    have := putPs_pend x k
    unfold putPs
    dsimp only
    split
    · exact this
    · split <;> exact this

section
variable {H0 H : Heap} {L : Lay} {x : Wm} {D : Role → Prop} {Q : List Value → Heap → Prop} {R : Option Nat → List Value → Heap → Prop}
/-- A row of its own, as cells. -/
theorem cellRow_owns {H : Heap} {e : TypeId} {rv : Value} {n : Nat} {f : Nat → Value} (ho : Owns H 1 e rv ((List.range n).map f)) (hn : 0 < n) : ∃ b c, rv = .slice (some ⟨b, 0, none⟩) n c ∧ CellRow H b n f := by
  rcases ho with ⟨_, hh⟩ | ⟨b, n', c, l, rfl, h1, h2, h3, h4, h5⟩
  · simp at hh; omega
  · simp at h1 h2 h5
    subst h1
    refine ⟨b, c, rfl, ⟨⟨_, _, h4, by simp; omega, fun i hi => ?_⟩⟩⟩
    have h6 : (l.take n)[i]? = ((List.range n).map f)[i]? := by rw [h5]
    rw [List.getElem?_take, if_pos hi] at h6
    simp [hi] at h6
    simp [h6]

theorem Mid.weak {K : Spots} {D' : Role → Prop} {wc : Array Value} (h : Mid H0 H L K x D wc) (hD : ∀ r, D' r → D r) : Mid H0 H L K x D' wc :=
  ⟨⟨fun r hr => h.parts.comp r (hD r hr), h.parts.old, h.parts.free, h.parts.cfg, h.parts.cfgc, fun hw => h.parts.nw (hD _ hw)⟩, h.blk, h.col, h.spots⟩

set_option maxHeartbeats 10000000 in
theorem new_first (hP : 1 ≤ x.P ∧ x.P ≤ 64) (hM : 1 ≤ x.M ∧ x.M ≤ 128) (hG : cfgRight x.P x.M x.G = true) (ht : ∀ p, p < x.P → x.turns p = 0) (hfl : ∀ p, p < x.M → x.flag p = false) (hq : x.queue = [])
    (hs : x.src = Src.fresh x.P) (hi : x.idle = ⟨x.P, 0, [], [], -1, x.M⟩) (hmem : x.mem = ⟨List.replicate (x.tab + x.G) 0, 0⟩) (hrg : ∀ p, x.rings p = ⟨[], false, -1, 0⟩) {gb : Nat} (hg : Glob gb H) (hlog : x.log = []) {Q' : Value → Heap → Prop}
    (hQ : ∀ K H', W gb K (fun k => H[k]?) H' (Wm.born { x with idle := stopMs (putPs x.idle x.P) x.M, all := fun _ => Mc.fresh }) → Q' (.tuple #[ptr K.b, i64 0]) H') : CallsH Tryz.prog 90 #[.agg #[i64 x.P, i64 x.M, i64 x.G]] H Q' := by
  obtain ⟨hP1, hP2⟩ := hP
  obtain ⟨hM1, hM2⟩ := hM
  apply calls90
  simp only [t90]
  rw [wpH_box, wpH_loadAgg_eq agg_24 (by simp [Value.cells])]
  simp only [Value.cells]
  rw [show rowD (H.push (.cells #[i64 x.P, i64 x.M, i64 x.G] 24 (0, 0))) H.size 0 3 = #[i64 x.P, i64 x.M, i64 x.G] by simp, wpH_call_eq body_151]
  refine world_right.mono ?_
  rintro _ H1 ⟨rfl, m1⟩
  rw [hG]
  have hc1 := m1.get (get_push_new H (.cells #[i64 x.P, i64 x.M, i64 x.G] 24 (0, 0))) (by simp)
  have hp' : Parts H H1 ⟨0, 0, 0, 0, 0, fun _ => 0, 0, 0, undef, ⟨0, 0, 0, 0, 0, 0, 0, []⟩, 0, 0, 0, undef, undef, 0, 0, fun _ => undef, 0, undef, fun _ => .none⟩ x (fun _ => False) :=
    ⟨fun _ h => h.elim, (Mod.push _ _).trans m1, fun _ _ => rfl, hc1, rfl, fun h => h⟩
  have w1 : IntKind.i64.wrap ((x.P : Int) + 2) = (x.P : Int) + 2 := wrap_i64 _ (by omega) (by omega)
  have w2 : IntKind.i64.wrap (2 * ((x.P : Int) + 2)) = (x.spinning : Int) := by rw [wrap_i64 _ (by omega) (by omega)]; unfold Wm.spinning; omega
  simp only [wpH_pure_eq, dry_not, Option.some.injEq, Next.value.injEq, exists_eq_left', Bool.not_true, wpH_ite, Bool.false_eq_true, if_false, wpH_join]
  refine split_region (x := x) (H0 := H) ?_ ?_
  · intro Rc hK
    rw [wpH_loadAgg_eq agg_24 (by rw [blk_rowOk hc1]; rfl), blk_row hc1]
    simp [blk_ok hc1, blk_cell hc1, w1, w2, -wpH_both]
    clear hc1 w1 w2 m1
    repeat' first
      | (rw [wpH_both]; refine ⟨?_, ?_⟩)
      | ((with_reducible refine st_turns hp' hP2 ht (fun H' m => Parts.held' hp' m (by simp)) ?_); clear hp'; intro H' L' _ _ _ _ _ hp')
      | ((with_reducible refine st_flags hp' hM2 hfl (fun H' m => Parts.held' hp' m (by simp)) ?_); clear hp'; intro H' L' _ _ _ _ _ hp')
      | ((with_reducible refine st_queue hp' hP1 hP2 hq (fun H' m => Parts.held' hp' m (by simp)) ?_); clear hp'; intro H' L' b _ _ _ _ _ hp')
      | ((with_reducible refine st_source hp' hP1 hP2 hs (fun H' m => Parts.held' hp' m (by simp)) ?_); clear hp'; intro H' L' l _ _ _ _ _ hp')
      | ((with_reducible refine st_idle hp' hP1 hP2 hM1 hM2 hi (fun H' m => Parts.held' hp' m (by simp)) ?_); clear hp'; intro H' L' b _ _ _ _ _ hp')
      | ((with_reducible refine Parts.lay hp' ?_ ?_ ?_ ?_ ?_ hK ?_ ?_ ?_ ?_ ?_) <;> first | (clear hK hp' hG ht hfl hq hs hi; simp only [*]; done) | (simp; done))
  · intro H2 L2 h2
    have hb := h2.blk
    have hc := h2.parts.cfg
    have w3 : IntKind.i64.wrap ((x.spinning : Int) + 1) = (x.notes : Int) := by unfold Wm.notes Wm.spinning; rw [wrap_i64 _ (by omega) (by omega)]; omega
    have w4 : IntKind.i64.wrap ((x.notes : Int) + x.M) = (x.tab : Int) := by unfold Wm.tab Wm.notes Wm.spinning; rw [wrap_i64 _ (by omega) (by omega)]; omega
    have hne : L2.b ≠ H.size := blk_ne hb hc (by decide)
    simp [blk_ok hb, blk_cell hb, blk_free hb, blk_ok hc, blk_cell hc, Nat.blt, w3, cellD_setH_ne hne, w4]
    have h3 := h2.mid.store 5 (i64 x.notes)
    have h4 := (h3.store 6 (i64 x.tab)).store 7 (i64 x.G)
    have hb3 := h3.blk
    refine wpH_storeAgg agg_186 rfl (by simp) (by unfold rowOk; rw [show (setH H2 L2.b 5 (i64 x.notes))[L2.b]? = _ from hb3]; rfl) (blk_blkFree hb3) ?_
    simp only [setRowH]
    have h5 : Mid H (setH (setH (setH H2 L2.b 5 (i64 x.notes)) L2.b 6 (i64 x.tab)) L2.b (6 + 1) (i64 x.G)) _ L2.spots x _ (wcs x L2.spots (.pointer none) (.slice none 0 0) (.slice none 0 0) (.slice none 0 0)) := h4
    generalize setH (setH (setH H2 L2.b 5 (i64 x.notes)) L2.b 6 (i64 x.tab)) L2.b (6 + 1) (i64 x.G) = H5 at h5 ⊢
    have hb5 : Blk H5 L2.b _ _ := h5.blk
    unfold wcs at hb5
    have hc5 := h5.parts.cfg
    have w5 : IntKind.i64.wrap ((x.tab : Int) + x.G) = ((x.tab + x.G : Nat) : Int) := by
      have hg : x.G ≤ 4096 := by unfold cfgRight at hG; simp at hG; omega
      unfold Wm.tab Wm.notes Wm.spinning; rw [wrap_i64 _ (by omega) (by omega)]; omega
    simp [blk_ok hb5, blk_cell hb5, blk_free hb5, blk_ok hc5, blk_cell hc5, Nat.blt, w5]
    have htab : x.tab + x.G ≤ 65536 := by
      have hg : x.G ≤ 4096 := by unfold cfgRight at hG; simp at hG; omega
      unfold Wm.tab Wm.notes Wm.spinning; omega
    refine (cell_new (k := (x.tab : Int) + x.G) (by omega) (by omega)).mono ?_
    rintro _ H6 ⟨mb, wb, rfl, hm6, m6, l1, l2⟩
    rw [show ((x.tab : Int) + x.G).toNat = x.tab + x.G by omega, ← hmem] at hm6
    obtain ⟨L5, h5⟩ : ∃ L5, Mid H H5 L5 L2.spots x _ (wcs x L2.spots (.pointer none) (.slice none 0 0) (.slice none 0 0) (.slice none 0 0)) := ⟨_, h5⟩
    have h6 : Mid H H6 { L5.paint H5.size (fun _ => .mem) with mb := mb, wb := wb } { L2.spots with mb := mb } x (fun r => r = .mem ∨ r = .turns ∨ r = .flag ∨ r = .queue ∨ r = .source ∨ r = .idle) (wcs x L2.spots (.pointer none) (.slice none 0 0) (.slice none 0 0) (.slice none 0 0)) := by
      refine h5.updK m6 (fun _ => .mem) rfl (by rw [← h5.spots]; rfl) rfl ⟨rfl, rfl, rfl⟩ (fun r => r = .mem) (by simp) (by simp) (by simp) (by simp) ?_ ?_
      · intro r hr hn
        have hr' := hr.resolve_left hn
        refine ⟨hr', fun hc => ?_⟩
        rcases hr' with rfl | rfl | rfl | rfl | rfl <;> exact hc
      · rintro r _ rfl
        exact ⟨hm6, Lay.paint_new (f := fun _ => .mem) l1, Lay.paint_new (f := fun _ => .mem) l2⟩
    have h7 : Mid H (setH H6 L2.b 3 (ptr mb)) _ { L2.spots with mb := mb } x _ (wcs x { L2.spots with mb := mb } (ptr mb) (.slice none 0 0) (.slice none 0 0) (.slice none 0 0)) := h6.store 3 (ptr mb)
    have hb6 : Blk H6 L2.b _ _ := h6.blk
    unfold wcs at hb6
    simp [blk_ok hb6, blk_free hb6, Nat.blt]
    have hc7 := h7.parts.cfg
    generalize setH H6 L2.b 3 (ptr mb) = H7 at *
    obtain ⟨L7, h7⟩ : ∃ L7, Mid H H7 L7 { L2.spots with mb := mb } x (fun r => r = .mem ∨ r = .turns ∨ r = .flag ∨ r = .queue ∨ r = .source ∨ r = .idle) (wcs x { L2.spots with mb := mb } (ptr mb) (.slice none 0 0) (.slice none 0 0) (.slice none 0 0)) := ⟨_, h7⟩
    simp [blk_ok hc7, blk_cell hc7, Nat.blt]
    refine wpH_loop (fun s H' => RI H { L2.spots with mb := mb } x (ptr mb) s H') (fun s _ => x.P - (intOf (sl s 0)).toNat) ⟨0, .slice none 0 0, L7, rfl, by omega, ⟨?_, .inl ⟨rfl, rfl⟩, by simp⟩⟩ ?_
    · exact h7.weak (by
        intro r hr
        rcases hr with h | h | h | h | h | h | ⟨p, hp, _⟩
        · simp [h]
        · simp [h]
        · simp [h]
        · simp [h]
        · simp [h]
        · simp [h]
        · omega)
    · rintro s H8 ⟨k, rv, L8, rfl, hkP, h8⟩
      by_cases hk : k < x.P
      · exact rings_step h8 hk hP2 hrg (by rw [putPs_pend, hi]; simp) fun H' L' rv' hu => ⟨⟨k + 1, rv', L', rfl, by omega, hu⟩, by simp [sl, intOf]; omega⟩
      · have hkP' : k = x.P := by omega
        subst hkP'
        simp
        have hc8 := h8.mid.parts.cfg
        simp [blk_ok hc8, blk_cell hc8, Nat.blt]
        obtain ⟨rb, rc, rfl, hrow⟩ := cellRow_owns h8.owns (by omega)
        have hrc := h8.col rb rfl
        have g8 : Mid H H8 { L8 with rb := rb, rc := rc } { L2.spots with mb := mb, rb := rb, rc := rc } { x with idle := putPs x.idle x.P } (fun r => r = .mem ∨ r = .turns ∨ r = .flag ∨ r = .queue ∨ r = .source ∨ r = .idle ∨ r = .rings ∨ ∃ p, p < x.P ∧ r = .ring p) _ :=
          ⟨⟨fun r hr => by
            rcases hr with rfl | rfl | rfl | rfl | rfl | rfl | rfl | ⟨p, hp, rfl⟩
            · exact h8.mid.parts.comp .mem (by simp)
            · exact h8.mid.parts.comp .turns (by simp)
            · exact h8.mid.parts.comp .flag (by simp)
            · exact h8.mid.parts.comp .queue (by simp)
            · exact h8.mid.parts.comp .source (by simp)
            · exact h8.mid.parts.comp .idle (by simp)
            · exact ⟨hrow, hrc⟩
            · exact h8.mid.parts.comp (.ring p) (by simp; exact hp),
            h8.mid.parts.old, h8.mid.parts.free, h8.mid.parts.cfg, h8.mid.parts.cfgc, by simp⟩, h8.mid.blk, h8.mid.col, congrArg (fun K : Spots => { K with rb := rb, rc := rc }) h8.mid.spots⟩
        generalize hx8 : ({ x with idle := putPs x.idle x.P } : Wm) = x8 at g8
        have hM8 : x8.M = x.M := by rw [← hx8]
        rw [← hM8]
        generalize hrv : Value.slice (some ⟨rb, 0, none⟩) x.P rc = rv at *
        have g8' : Mid H H8 { L8 with rb := rb, rc := rc } { L2.spots with mb := mb, rb := rb, rc := rc } x8 (fun r => r = .idle ∨ (r = .mem ∨ r = .turns ∨ r = .flag ∨ r = .queue ∨ r = .source ∨ r = .rings ∨ ∃ p, p < x.P ∧ r = .ring p)) (wcs x8 { L2.spots with mb := mb, rb := rb, rc := rc } (ptr mb) rv (.slice none 0 0) (.slice none 0 0)) := by
          subst hx8
          exact g8.weak (by intro r hr; rcases hr with h | h | h | h | h | h | h | h <;> simp [h])
        refine wpH_loop (fun s H' => MI H { L2.spots with mb := mb, rb := rb, rc := rc } x8 (fun r => r = .mem ∨ r = .turns ∨ r = .flag ∨ r = .queue ∨ r = .source ∨ r = .rings ∨ ∃ p, p < x.P ∧ r = .ring p) (ptr mb) rv s H') (fun s _ => x8.M - (intOf (sl s 0)).toNat)
          ⟨0, .slice none 0 0, _, rfl, by omega, ⟨g8', .inl ⟨rfl, rfl⟩, by simp⟩⟩ ?_
        rintro s H9 ⟨k, av, L9, rfl, hkM, h9⟩
        have hms8 : x8.idle.ms = [] := by rw [← hx8]; show (putPs x.idle x.P).ms = []; rw [putPs_ms, hi]
        by_cases hk : k < x8.M
        · exact machs_step h9 hk (by omega) (by simp) (by simp) (by have := stopMs_ms x8.idle k; rw [hms8] at this; simp at this; omega) fun H' L' av' hu => ⟨⟨k + 1, av', L', rfl, by omega, hu⟩, by simp [sl, intOf]; omega⟩
        · have hkM' : k = x8.M := by omega
          subst hkM'
          obtain ⟨ab, ac, rfl, hrow9⟩ := machRow_owns rfl h9.owns (show 0 < x8.M by omega)
          have hac := h9.col ab rfl
          have g9 : Mid H H9 { L9 with ab := ab, ac := ac, rv := fun _ => .slice none 0 0 } { L2.spots with mb := mb, rb := rb, rc := rc } { x8 with idle := stopMs x8.idle x8.M, all := fun _ => Mc.fresh }
              (fun r => r = .idle ∨ (r = .mem ∨ r = .turns ∨ r = .flag ∨ r = .queue ∨ r = .source ∨ r = .rings ∨ ∃ p, p < x.P ∧ r = .ring p) ∨ r = .all ∨ ∃ i, r = .rest i) _ :=
            ⟨⟨fun r hr => by
              rcases hr with rfl | hr | rfl | ⟨i, rfl⟩
              · exact h9.mid.parts.comp .idle (.inl rfl)
              · have hc := h9.mid.parts.comp r (.inr hr)
                rcases hr with rfl | rfl | rfl | rfl | rfl | rfl | ⟨p, hp, rfl⟩ <;> exact hc
              · exact ⟨hrow9, hac⟩
              · intro _; exact ⟨.inl ⟨rfl, rfl⟩, by intro c hc; cases hc⟩,
              h9.mid.parts.old, h9.mid.parts.free, h9.mid.parts.cfg, h9.mid.parts.cfgc, by simp⟩, h9.mid.blk, h9.mid.col, h9.mid.spots⟩
          have hmb : L9.mb = mb := congrArg Spots.mb h9.mid.spots
          have hrb : L9.rb = rb := congrArg Spots.rb h9.mid.spots
          have hrc' : L9.rc = rc := congrArg Spots.rc h9.mid.spots
          have hlog8 : x8.log = x.log := by rw [← hx8]
          have hP8 : x8.P = x.P := by rw [← hx8]
          have w9 : WAt gb H9 { L9 with ab := ab, ac := ac, rv := fun _ => .slice none 0 0, lv := .slice none 0 0 } { x8 with idle := stopMs x8.idle x8.M, all := fun _ => Mc.fresh } := by
            subst hrv; subst hmb; subst hrb; subst hrc'
            rw [← hP8] at g9
            refine Mid.wat (L := { L9 with ab := ab, ac := ac, rv := fun _ => .slice none 0 0 }) (D := fun r => r = .idle ∨ (r = .mem ∨ r = .turns ∨ r = .flag ∨ r = .queue ∨ r = .source ∨ r = .rings ∨ ∃ p, p < x8.P ∧ r = .ring p) ∨ r = .all ∨ ∃ i, r = .rest i) g9 hg (hlog8.trans hlog) ?_
            intro r h1 h2 h3 h4
            cases r with
            | none => exact absurd rfl h1
            | world => exact absurd rfl h2
            | log => exact absurd rfl h3
            | ring p => exact .inr (.inl (.inr (.inr (.inr (.inr (.inr (.inr ⟨p, h4 p rfl, rfl⟩)))))))
            | rest i => exact .inr (.inr (.inr ⟨i, rfl⟩))
            | _ => simp
          have hb9 : L9.b = L2.b := congrArg Spots.b h9.mid.spots
          have hw : W gb (Lay.fix { L9 with ab := ab, ac := ac, rv := fun _ => .slice none 0 0, lv := .slice none 0 0 }) (fun k => H[k]?) H9 { x8 with idle := stopMs x8.idle x8.M, all := fun _ => Mc.fresh } := by
            refine ⟨{ L9 with ab := ab, ac := ac, rv := fun _ => .slice none 0 0, lv := .slice none 0 0 }, rfl, ?_, w9, fun k o hk => ⟨h9.mid.parts.old.get hk (by simp), h9.mid.parts.free k (blk_lt hk)⟩⟩
            refine ⟨⟨by show 1 ≤ x8.P; omega, by show x8.P ≤ 64; omega⟩, ?_, ?_, ?_⟩
            · unfold cfgRight at hG; simp at hG
              exact ⟨by show x8.P ≤ x8.M; omega, by show x8.M ≤ 128; omega⟩
            · unfold cfgRight at hG; simp at hG
              have hG8 : x8.G = x.G := by rw [← hx8]
              exact ⟨by show 1 ≤ x8.G; omega, by show x8.G ≤ 4096; omega⟩
            · subst hx8
              show x.mem.W.length = _
              rw [hmem]; simp; rfl
          have hq8 : x8.queue = x.queue := by rw [← hx8]
          have hfin := new_tail (Q := Q') hw (by show x8.log.length ≤ _; rw [hlog8, hlog]; simp) (by show x8.queue.length ≤ _; rw [hq8, hq]; simp) (fun H' h' => hQ _ H' (by subst hx8; exact h'))
          have ebb : (Lay.fix { L9 with ab := ab, ac := ac, rv := fun _ => .slice none 0 0, lv := .slice none 0 0 }).b = L2.b := hb9
          rw [ebb] at hfin
          simpa [newTail] using hfin
end

end Go.Tr
