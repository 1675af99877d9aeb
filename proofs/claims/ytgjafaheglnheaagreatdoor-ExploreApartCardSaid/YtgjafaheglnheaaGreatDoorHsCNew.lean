/- Package world: New; and the small functions that it calls. Conditions: the program's tables are laid. -/
import Derived.Test.YtgjafaheglnheaaGreatDoorHsCWorld
import Derived.Test.YtgjafaheglnheaaGreatDoorHsTW
set_option maxRecDepth 20000
namespace Go.Tr
open Go.Proofs (Tryz.prog)

/-- Whoever asks for an object made anew. -/
def CellNew (H : Heap) (n : Nat) (u : Value) (H' : Heap) : Prop := ∃ b wb, u = ptr b ∧ MemAt H' b wb ⟨List.replicate n 0, 0⟩ ∧ Mod H H' [] ∧ H.size ≤ b ∧ H.size ≤ wb
def RingNew (H : Heap) (u : Value) (H' : Heap) : Prop := ∃ b, u = ptr b ∧ RingAt H' b ⟨[], false, -1, 0⟩ ∧ Mod H H' [] ∧ H.size ≤ b
def QueueNew (H : Heap) (p : Int) (u : Value) (H' : Heap) : Prop := ∃ b, u = ptr b ∧ QueueAt H' b (.slice none 0 0) [] p ∧ Mod H H' [] ∧ H.size ≤ b

section
variable {H : Heap}
theorem cell_new {k : Int} (h0 : 0 ≤ k) (h1 : k ≤ 65536) : CallsH Tryz.prog 155 #[i64 k] H (CellNew H k.toNat) := by
  apply calls155
  have e1 : (if 0 < k then k else 0) = k := by split <;> omega
  have e2 : (if 65536 < k then 65536 else k) = k := by split <;> omega
  simp only [t155, wpH_pure_eq]
  simp [e1, e2]
  refine wpH_make make_200 rfl (by decide) h0 (by omega) ?_
  simp [Value.cells]
  unfold CellNew
  refine ⟨_, _, rfl, ⟨⟨k.toNat, ?_⟩, ⟨List.replicate k.toNat (u64 0), ?_, by simp, fun j hj => ?_⟩, ?_⟩, (Mod.push _ _).trans (Mod.push _ _), by omega, Nat.le_refl _⟩
  · unfold Blk; rw [Array.getElem?_push, if_pos (by simp)]; simp
  · unfold Blk; rw [get_push_lt (by simp)]; simp
  · simp at hj; simp [hj]
  · omega

theorem ring_new : CallsH Tryz.prog 156 #[] H (RingNew H) := by
  apply calls156
  simp only [t156, wpH_pure_eq]
  refine ⟨_, build_348_4 _, ?_⟩
  rw [wpH_box]
  simp only [wpH_ret]
  unfold RingNew
  refine ⟨_, rfl, ⟨List.replicate 256 0, 0, ⟨by simp, ?_⟩, ⟨by decide, by simp, by simp⟩⟩, Mod.push _ _, Nat.le_refl _⟩
  unfold Blk
  rw [Array.getElem?_push, if_pos rfl]
  rfl

theorem queue_new {p : Int} (h1 : 1 ≤ p) (h2 : p ≤ 64) : CallsH Tryz.prog 152 #[i64 p] H (QueueNew H p) := by
  apply calls152
  have e1 : (if 1 < p then p else 1) = p := by split <;> omega
  have e2 : (if 64 < p then 64 else p) = p := by split <;> omega
  simp only [t152, wpH_pure_eq]
  simp [e1, e2, Value.cells]
  unfold QueueNew
  exact ⟨_, rfl, ⟨by unfold Blk; simp, .inl ⟨rfl, rfl⟩, by simp⟩, Mod.push _ _, Nat.le_refl _⟩

theorem mach_fresh : CallsH Tryz.prog 129 #[] H fun u H' => u = .agg (Mc.fresh.cs (.slice none 0 0)).toArray ∧ Mod H H' [] := by
  apply calls129
  simp only [t129]
  rw [wpH_alloc zero_98]
  simp
  refine wpH_storeAgg agg_98 rfl (by simp) (by simp [Value.cells]) (by simp) ?_
  simp [setRowH, Value.cells, setH_push_new]
  rw [wpH_loadAgg_eq agg_98 (by simp)]
  simp [Mc.fresh, Mc.cs]
  exact Mod.push _ _

/-- May a config be? -/
def cfgRight (p m g : Int) : Bool := decide (1 ≤ p ∧ p ≤ 64 ∧ p ≤ m ∧ m ≤ 128 ∧ 1 ≤ g ∧ g ≤ 4096)
theorem world_right {p m g : Int} : CallsH Tryz.prog 151 #[.agg #[i64 p, i64 m, i64 g]] H fun u H' => u = .bool (cfgRight p m g) ∧ Mod H H' [] := by
  apply calls151
  unfold cfgRight
  by_cases a1 : 1 ≤ p
  · by_cases a2 : p ≤ 64
    · by_cases a3 : p ≤ m
      · by_cases a4 : m ≤ 128
        · by_cases a5 : 1 ≤ g
          · simp [t151, Value.cells, a1, a2, a3, a4, a5]; exact Mod.push _ _
          · simp [t151, Value.cells, a1, a2, a3, a4, a5]; exact Mod.push _ _
        · simp [t151, Value.cells, a1, a2, a3, a4]; exact Mod.push _ _
      · simp [t151, Value.cells, a1, a2, a3]; exact Mod.push _ _
    · simp [t151, Value.cells, a1, a2]; exact Mod.push _ _
  · simp [t151, Value.cells, a1]; exact Mod.push _ _
end

/-! ### The parts of a world, made one by one in whatever order -/

structure Parts (H0 : Heap) (H : Heap) (L : Lay) (x : Wm) (D : Role → Prop) : Prop where
  comp : ∀ r, D r → Comp L x H r
  old : Mod H0 H []
  free : ∀ k, k < H0.size → L.col k = .none
  cfg : Blk H H0.size #[i64 x.P, i64 x.M, i64 x.G] 24
  cfgc : L.col H0.size = .none
  nw : ¬ D .world

section
variable {H0 H H' : Heap} {L L' : Lay} {x : Wm} {D : Role → Prop}
theorem Parts.add (h : Parts H0 H L x D) (m : Mod H H' []) (f : Nat → Role) (hcol : L'.col = (L.paint H.size f).col) (r0 : Role) (h0 : r0 ≠ .world)
    (hsame : ∀ r, r ≠ .world → r ≠ r0 → Comp (L.paint H.size f) x H' r → Comp L' x H' r) (hnew : Comp L' x H' r0) : Parts H0 H' L' x (fun r => r = r0 ∨ D r) := by
  refine ⟨fun r hr => ?_, h.old.trans m, fun k hk => ?_, m.get h.cfg (by simp), ?_, fun hh => hh.elim (fun e => h0 e.symm) h.nw⟩
  · by_cases e : r = r0
    · rw [e]; exact hnew
    · refine hsame r (fun ew => h.nw (ew ▸ hr.resolve_left e)) e ((h.comp r (hr.resolve_left e)).frame m (by simp) f)
  · rw [hcol, Lay.paint_old (Nat.lt_of_lt_of_le hk h.old.size)]; exact h.free k hk
  · rw [hcol, Lay.paint_old (blk_lt h.cfg)]; exact h.cfgc

/-- What the region reads of the config. -/
theorem Parts.held (h : Parts H0 H L x D) {ws : List (N × Value)} (hw : ∀ w ∈ ws, w = (.load 3 (.pointer (some ⟨H0.size, 0, Option.none⟩)), i64 x.P) ∨ w = (.load 3 (.pointer (some ⟨H0.size, 1, Option.none⟩)), i64 x.M) ∨
    w = (.load 24 (.pointer (some ⟨H0.size, 0, Option.none⟩)), .agg #[i64 x.P, i64 x.M, i64 x.G])) : Held Tryz.prog ws H := by
  have h1 : Held Tryz.prog [(.load 3 (.pointer (some ⟨H0.size, 0, Option.none⟩)), i64 x.P)] H := held_cons_load one_3 (by rw [blk_ok h.cfg]; rfl) (by rw [blk_cell h.cfg]; rfl) (held_nil _ _)
  have h2 : Held Tryz.prog [(.load 3 (.pointer (some ⟨H0.size, 1, Option.none⟩)), i64 x.M)] H := held_cons_load one_3 (by rw [blk_ok h.cfg]; rfl) (by rw [blk_cell h.cfg]; rfl) (held_nil _ _)
  have h3 : Held Tryz.prog [(.load 24 (.pointer (some ⟨H0.size, 0, Option.none⟩)), .agg #[i64 x.P, i64 x.M, i64 x.G])] H := held_cons_loadAgg agg_24 (by rw [blk_rowOk h.cfg]; rfl) (by rw [blk_row h.cfg]; rfl) (held_nil _ _)
  intro w hwm
  rcases hw w hwm with rfl | rfl | rfl
  · exact h1 _ (List.mem_singleton.2 rfl)
  · exact h2 _ (List.mem_singleton.2 rfl)
  · exact h3 _ (List.mem_singleton.2 rfl)

theorem cellRow_replicate {b n : Nat} {v : Value} {e : TypeId} (h : Blk H b (List.replicate n v).toArray e) {f : Nat → Value} (hf : ∀ i, i < n → f i = v) : CellRow H b n f :=
  ⟨⟨_, e, h, by simp, fun i hi => by simp [hi, hf i hi]⟩⟩

variable {Q : List Value → Heap → Prop} {R : Option Nat → List Value → Heap → Prop} {k : Value → T} {ws : List (N × Value)}

theorem st_turns (h : Parts H0 H L x D) (hp : x.P ≤ 64) (ht : ∀ p, p < x.P → x.turns p = 0) (hw : ∀ H', Mod H H' [] → Held Tryz.prog ws H')
    (hk : ∀ H' L', L'.tb = H.size → L'.fb = L.fb → L'.qb = L.qb → L'.src = L.src → L'.ib = L.ib → Parts H0 H' L' x (fun r => r = .turns ∨ D r) → wpH Tryz.prog Q (k (.slice (some ⟨H.size, 0, Option.none⟩) x.P x.P)) R H') :
    wpH Tryz.prog Q (.op ws (.mkSlice 33 (i64 x.P) (i64 x.P)) k) R H := by
  refine wpH_makeCapW make_33 rfl (by decide) (by omega) (by omega) (by omega) (hw _ (Mod.push _ _)) ?_
  simp only [Int.toNat_natCast]
  refine hk _ { L.paint H.size (fun _ => .turns) with tb := H.size } rfl rfl rfl rfl rfl ?_
  refine h.add (Mod.push _ _) (fun _ => .turns) (by rfl) .turns (by simp) ?_ ⟨cellRow_replicate (v := i64 0) (e := 3) (get_push_new _ _) fun i hi => ?_, ?_⟩
  rotate_left
  · show i64 (x.turns i) = _; rw [ht i hi]
  rotate_right
  · intro r hw0 hr hc; cases r <;> first | exact hc | exact absurd rfl hr | exact absurd rfl hw0
  · exact Lay.paint_new (f := fun _ => .turns) (Nat.le_refl _)

theorem st_flags (h : Parts H0 H L x D) (hp : x.M ≤ 128) (ht : ∀ p, p < x.M → x.flag p = false) (hw : ∀ H', Mod H H' [] → Held Tryz.prog ws H')
    (hk : ∀ H' L', L'.tb = L.tb → L'.fb = H.size → L'.qb = L.qb → L'.src = L.src → L'.ib = L.ib → Parts H0 H' L' x (fun r => r = .flag ∨ D r) → wpH Tryz.prog Q (k (.slice (some ⟨H.size, 0, Option.none⟩) x.M x.M)) R H') :
    wpH Tryz.prog Q (.op ws (.mkSlice 115 (i64 x.M) (i64 x.M)) k) R H := by
  refine wpH_makeCapW make_115 rfl (by decide) (by omega) (by omega) (by omega) (hw _ (Mod.push _ _)) ?_
  simp only [Int.toNat_natCast]
  refine hk _ { L.paint H.size (fun _ => .flag) with fb := H.size } rfl rfl rfl rfl rfl ?_
  refine h.add (Mod.push _ _) (fun _ => .flag) (by rfl) .flag (by simp) ?_ ⟨cellRow_replicate (v := .bool false) (e := 4) (get_push_new _ _) fun i hi => ?_, ?_⟩
  rotate_left
  · show Value.bool (x.flag i) = _; rw [ht i hi]
  rotate_right
  · intro r hw0 hr hc; cases r <;> first | exact hc | exact absurd rfl hr | exact absurd rfl hw0
  · exact Lay.paint_new (f := fun _ => .flag) (Nat.le_refl _)

theorem st_queue (h : Parts H0 H L x D) (h1 : 1 ≤ x.P) (hp : x.P ≤ 64) (ht : x.queue = []) (hw : ∀ H', Mod H H' [] → Held Tryz.prog ws H')
    (hk : ∀ H' L' b, L'.tb = L.tb → L'.fb = L.fb → L'.qb = b → L'.src = L.src → L'.ib = L.ib → Parts H0 H' L' x (fun r => r = .queue ∨ D r) → wpH Tryz.prog Q (k (ptr b)) R H') :
    wpH Tryz.prog Q (.op ws (.callv (.func (.func 152) #[] #[]) #[i64 x.P]) k) R H := by
  refine wpH_callW body_152 ?_
  refine (queue_new (by omega) (by omega)).mono ?_
  rintro _ H1 ⟨b, rfl, hq, m, hb⟩
  refine ⟨hw _ m, hk H1 { L.paint H.size (fun _ => .queue) with qb := b, qv := .slice Option.none 0 0 } b rfl rfl rfl rfl rfl ?_⟩
  refine h.add m (fun _ => .queue) (by rfl) .queue (by simp) ?_ ⟨?_, ?_, by intro c hc; cases hc⟩
  · intro r hw0 hr hc; cases r <;> first | exact hc | exact absurd rfl hr | exact absurd rfl hw0
  · show QueueAt H1 b _ x.queue x.P
    rw [ht]; exact hq
  · exact Lay.paint_new (f := fun _ => .queue) hb

theorem st_source (h : Parts H0 H L x D) (h1 : 1 ≤ x.P) (hp : x.P ≤ 64) (ht : x.src = Src.fresh x.P) (hw : ∀ H', Mod H H' [] → Held Tryz.prog ws H')
    (hk : ∀ H' L' l, L'.tb = L.tb → L'.fb = L.fb → L'.qb = L.qb → L'.src = l → L'.ib = L.ib → Parts H0 H' L' x (fun r => r = .source ∨ D r) → wpH Tryz.prog Q (k (ptr l.b)) R H') :
    wpH Tryz.prog Q (.op ws (.callv (.func (.func 153) #[] #[]) #[i64 x.P]) k) R H := by
  refine wpH_callW body_153 ?_
  refine (source_new (by omega) (by omega)).mono ?_
  rintro _ H1 ⟨l, rfl, hq, m, hb⟩
  refine ⟨hw _ m, hk H1 { L.paint H.size (fun _ => .source) with src := l } l rfl rfl rfl rfl rfl ?_⟩
  refine h.add m (fun _ => .source) (by rfl) .source (by simp) ?_ ⟨?_, ?_⟩
  · intro r hw0 hr hc; cases r <;> first | exact hc | exact absurd rfl hr | exact absurd rfl hw0
  · show SrcAt H1 l x.src
    rw [ht]; simpa using hq
  · intro c hc; exact Lay.paint_new (f := fun _ => .source) (hb c hc)

theorem st_idle (h : Parts H0 H L x D) (h1 : 1 ≤ x.P) (hp : x.P ≤ 64) (h2 : 1 ≤ x.M) (hm : x.M ≤ 128) (ht : x.idle = ⟨x.P, 0, [], [], -1, x.M⟩) (hw : ∀ H', Mod H H' [] → Held Tryz.prog ws H')
    (hk : ∀ H' L' b, L'.tb = L.tb → L'.fb = L.fb → L'.qb = L.qb → L'.src = L.src → L'.ib = b → Parts H0 H' L' x (fun r => r = .idle ∨ D r) → wpH Tryz.prog Q (k (ptr b)) R H') :
    wpH Tryz.prog Q (.op ws (.callv (.func (.func 154) #[] #[]) #[i64 x.P, i64 x.M]) k) R H := by
  refine wpH_callW body_154 ?_
  refine (idle_new (by omega) (by omega) (by omega) (by omega)).mono ?_
  rintro _ H1 ⟨b, mk, wb, rfl, hq, m, l1, l2, l3⟩
  refine ⟨hw _ m, hk H1 { L.paint H.size (fun _ => .idle) with ib := b, im := mk, iw := wb, pv := .slice Option.none 0 0, mv := .slice Option.none 0 0 } b rfl rfl rfl rfl rfl ?_⟩
  refine h.add m (fun _ => .idle) (by rfl) .idle (by simp) ?_ ⟨?_, ?_⟩
  · intro r hw0 hr hc; cases r <;> first | exact hc | exact absurd rfl hr | exact absurd rfl hw0
  · show IdleAt H1 b mk wb _ _ x.idle
    rw [ht]; simpa using hq
  · intro c hc
    simp [idleFoot] at hc
    refine Lay.paint_new (f := fun _ => .idle) ?_
    rcases hc with rfl | rfl | rfl <;> assumption
theorem Parts.held' (h : Parts H0 H L x D) (m : Mod H H' []) {ws : List (N × Value)} (hw : ∀ w ∈ ws, w = (.load 3 (.pointer (some ⟨H0.size, 0, Option.none⟩)), i64 x.P) ∨ w = (.load 3 (.pointer (some ⟨H0.size, 1, Option.none⟩)), i64 x.M) ∨
    w = (.load 24 (.pointer (some ⟨H0.size, 0, Option.none⟩)), .agg #[i64 x.P, i64 x.M, i64 x.G])) : Held Tryz.prog ws H' :=
  Parts.held (L := L.paint H.size fun _ => .none) (D := fun _ => False) ⟨fun _ h => h.elim, h.old.trans m, fun k hk => by rw [Lay.paint_old (Nat.lt_of_lt_of_le hk h.old.size)]; exact h.free k hk, m.get h.cfg (by simp), by rw [Lay.paint_old (blk_lt h.cfg)]; exact h.cfgc, fun h => h⟩ hw
end

/-- What is known once the parts are made and the world's block is laid. -/
structure Laid0 (H0 H : Heap) (L : Lay) (x : Wm) : Prop where
  parts : Parts H0 H L x (fun r => r = .turns ∨ r = .flag ∨ r = .queue ∨ r = .source ∨ r = .idle)
  blk : Blk H L.b #[i64 x.P, i64 x.M, i64 x.G, .pointer none, i64 x.spinning, i64 0, i64 0, i64 0, .slice none 0 0, .slice (some ⟨L.tb, 0, none⟩) x.P x.P, ptr L.qb, ptr L.src.b, ptr L.ib,
    .slice none 0 0, .slice (some ⟨L.fb, 0, none⟩) x.M x.M, .slice none 0 0] 193
  col : L.col L.b = .world

section
variable {H0 H : Heap} {L : Lay} {x : Wm} {D : Role → Prop} {Q : List Value → Heap → Prop} {R : Option Nat → List Value → Heap → Prop}
theorem Parts.lay (h : Parts H0 H L x D) {u1 u2 u3 u4 u5 : Value} (h1 : D .turns) (h2 : D .flag) (h3 : D .queue) (h4 : D .source) (h5 : D .idle)
    (hK : ∀ H' L', Laid0 H0 H' L' x → R none [ptr L'.b] H') (e1 : u1 = .slice (some ⟨L.tb, 0, none⟩) x.P x.P) (e2 : u2 = .slice (some ⟨L.fb, 0, none⟩) x.M x.M) (e3 : u3 = ptr L.qb) (e4 : u4 = ptr L.src.b) (e5 : u5 = ptr L.ib) :
    wpH Tryz.prog Q (.pure (.build 193 #[(0, .agg #[i64 x.P, i64 x.M, i64 x.G]), (2, i64 x.spinning), (6, u1), (11, u2), (7, u3), (8, u4), (9, u5)])
      fun v32 => .op [] (.box 193 v32) fun v33 => .leaf none [v33]) R H := by
  subst e1 e2 e3 e4 e5
  simp only [wpH_pure_eq]
  refine ⟨_, build_193_0_2_6_11_7_8_9 _ _ _ _ _ _ _ _ _ _ _ _ _, ?_⟩
  rw [wpH_box]
  simp only [wpH_leaf]
  refine hK _ { L.paint H.size (fun _ => .world) with b := H.size } ⟨⟨?_, h.old.trans (Mod.push _ _), ?_, ?_, ?_, ?_⟩, ?_, ?_⟩
  · intro r hr
    have hD : D r := by rcases hr with rfl | rfl | rfl | rfl | rfl <;> assumption
    have hf := (h.comp r hD).frame (Mod.push (.cells (Value.agg #[i64 x.P, i64 x.M, i64 x.G, .pointer none, i64 x.spinning, i64 0, i64 0, i64 0, .slice none 0 0, .slice (some ⟨L.tb, 0, none⟩) x.P x.P, ptr L.qb, ptr L.src.b, ptr L.ib,
      .slice none 0 0, .slice (some ⟨L.fb, 0, none⟩) x.M x.M, .slice none 0 0]).cells 193 (0, 0)) []) (by simp) (fun _ => .world)
    rcases hr with rfl | rfl | rfl | rfl | rfl <;> exact hf
  · intro k hk
    exact (Lay.paint_old (f := fun _ => .world) (Nat.lt_of_lt_of_le hk h.old.size)).trans (h.free k hk)
  · exact get_push_old h.cfg
  · exact (Lay.paint_old (f := fun _ => .world) (blk_lt h.cfg)).trans h.cfgc
  · simp
  · exact get_push_new _ _
  · exact Lay.paint_new (f := fun _ => .world) (Nat.le_refl _)

/-- Where some parts lie, for good. -/
structure Spots where
  b : Nat
  tb : Nat
  fb : Nat
  qb : Nat
  sb : Nat
  ib : Nat
  mb : Nat
  rb : Nat
  rc : Nat
def Lay.spots (L : Lay) : Spots := ⟨L.b, L.tb, L.fb, L.qb, L.src.b, L.ib, L.mb, L.rb, L.rc⟩
/-- The cells of a world's block under way. -/
def wcs (x : Wm) (K : Spots) (mv rv av lv : Value) : Array Value := #[i64 x.P, i64 x.M, i64 x.G, mv, i64 x.spinning, i64 x.notes, i64 x.tab, i64 x.G, rv,
    .slice (some ⟨K.tb, 0, none⟩) x.P x.P, ptr K.qb, ptr K.sb, ptr K.ib, av, .slice (some ⟨K.fb, 0, none⟩) x.M x.M, lv]
/-- A world under way: some parts, and its block as it is by now. -/
structure Mid (H0 H : Heap) (L : Lay) (K : Spots) (x : Wm) (D : Role → Prop) (wc : Array Value) : Prop where
  parts : Parts H0 H L x D
  blk : Blk H K.b wc 193
  col : L.col K.b = .world
  spots : L.spots = K

theorem Mid.updK {H' : Heap} {L' : Lay} {K K' : Spots} {x' : Wm} {D' : Role → Prop} {wc : Array Value} {S : List Nat} (h : Mid H0 H L K x D wc) (m : Mod H H' S) (f : Nat → Role) (hcol : L'.col = (L.paint H.size f).col) (hb : L'.spots = K') (hbb : K'.b = K.b)
    (hx : x'.P = x.P ∧ x'.M = x.M ∧ x'.G = x.G) (E : Role → Prop) (hS : ∀ k ∈ S, k < H.size → E (L.col k)) (hE0 : ¬ E .none) (hE1 : ¬ E .world) (hD' : ¬ D' .world)
    (hsame : ∀ r, D' r → ¬ E r → D r ∧ (Comp (L.paint H.size f) x H' r → Comp L' x' H' r)) (hnew : ∀ r, D' r → E r → Comp L' x' H' r) : Mid H0 H' L' K' x' D' wc := by
  have hold : ∀ k, k < H0.size → k < H.size := fun k hk => Nat.lt_of_lt_of_le hk h.parts.old.size
  have hbl := blk_lt h.blk
  have hcl := blk_lt h.parts.cfg
  refine ⟨⟨fun r hr => ?_, ⟨Nat.le_trans h.parts.old.size m.size, fun k hk _ => ?_⟩, fun k hk => ?_, ?_, ?_, hD'⟩, ?_, ?_, hb⟩
  · by_cases hE : E r
    · exact hnew r hr hE
    · obtain ⟨hd, hf⟩ := hsame r hr hE
      exact hf ((h.parts.comp r hd).frame m (fun k hk hlt e => hE (e ▸ hS k hk hlt)) f)
  · exact (m.old k (hold k hk) fun hm => hE0 (by have := hS k hm (hold k hk); rw [h.parts.free k hk] at this; exact this)).trans (h.parts.old.old k hk (by simp))
  · rw [hcol, Lay.paint_old (hold k hk)]; exact h.parts.free k hk
  · rw [hx.1, hx.2.1, hx.2.2]
    exact m.get h.parts.cfg fun hm => hE0 (by have := hS _ hm hcl; rw [h.parts.cfgc] at this; exact this)
  · rw [hcol, Lay.paint_old hcl]; exact h.parts.cfgc
  · rw [hbb]; exact m.get h.blk fun hm => hE1 (by have := hS _ hm hbl; rw [h.col] at this; exact this)
  · rw [hbb, hcol, Lay.paint_old hbl]; exact h.col

theorem Mid.upd {H' : Heap} {L' : Lay} {K : Spots} {x' : Wm} {D' : Role → Prop} {wc : Array Value} {S : List Nat} (h : Mid H0 H L K x D wc) (m : Mod H H' S) (f : Nat → Role) (hcol : L'.col = (L.paint H.size f).col) (hb : L'.spots = K)
    (hx : x'.P = x.P ∧ x'.M = x.M ∧ x'.G = x.G) (E : Role → Prop) (hS : ∀ k ∈ S, k < H.size → E (L.col k)) (hE0 : ¬ E .none) (hE1 : ¬ E .world) (hD' : ¬ D' .world)
    (hsame : ∀ r, D' r → ¬ E r → D r ∧ (Comp (L.paint H.size f) x H' r → Comp L' x' H' r)) (hnew : ∀ r, D' r → E r → Comp L' x' H' r) : Mid H0 H' L' K x' D' wc :=
  h.updK m f hcol hb rfl hx E hS hE0 hE1 hD' hsame hnew

theorem Mid.store {K : Spots} {wc : Array Value} (h : Mid H0 H L K x D wc) (o : Nat) (v : Value) : Mid H0 (setH H K.b o v) (L.paint H.size fun _ => .none) K x D (wc.setIfInBounds o v) := by
  have m : Mod H (setH H K.b o v) [K.b] := Mod.setH _ _ _ (by simp)
  have hbl := blk_lt h.blk
  have hcl := blk_lt h.parts.cfg
  have ne0 : ∀ k, L.col k = .none → k ∉ [K.b] := fun k hk => by simp; rintro rfl; rw [h.col] at hk; cases hk
  refine ⟨⟨fun r hr => (h.parts.comp r hr).frame m ?_ _, ⟨by simp; exact h.parts.old.size, fun k hk _ => ?_⟩, fun k hk => ?_, m.get h.parts.cfg (ne0 _ h.parts.cfgc), ?_, h.parts.nw⟩, ?_, ?_, h.spots⟩
  · intro k hk _ e
    simp at hk
    rw [hk, h.col] at e
    exact h.parts.nw (e ▸ hr)
  · exact (m.old k (Nat.lt_of_lt_of_le hk h.parts.old.size) (ne0 k (h.parts.free k hk))).trans (h.parts.old.old k hk (by simp))
  · rw [Lay.paint_old (Nat.lt_of_lt_of_le hk h.parts.old.size)]; exact h.parts.free k hk
  · rw [Lay.paint_old hcl]; exact h.parts.cfgc
  · rw [Blk, get_setH_self h.blk]
  · exact (Lay.paint_old hbl).trans h.col

theorem Laid0.mid (h : Laid0 H0 H L x) : Mid H0 H L L.spots x (fun r => r = .turns ∨ r = .flag ∨ r = .queue ∨ r = .source ∨ r = .idle) #[i64 x.P, i64 x.M, i64 x.G, .pointer none, i64 x.spinning, i64 0, i64 0, i64 0, .slice none 0 0,
    .slice (some ⟨L.tb, 0, none⟩) x.P x.P, ptr L.qb, ptr L.src.b, ptr L.ib, .slice none 0 0, .slice (some ⟨L.fb, 0, none⟩) x.M x.M, .slice none 0 0] := ⟨h.parts, h.blk, h.col, rfl⟩

theorem split_region {A : T} {Rc : Option Nat → List Value → Heap → Prop} (h : ∀ R : Option Nat → List Value → Heap → Prop, (∀ H' L', Laid0 H0 H' L' x → R none [ptr L'.b] H') → wpH Tryz.prog Q A R H)
    (k : ∀ H' L', Laid0 H0 H' L' x → Rc none [ptr L'.b] H') : wpH Tryz.prog Q A Rc H := h Rc k

end

end Go.Tr
