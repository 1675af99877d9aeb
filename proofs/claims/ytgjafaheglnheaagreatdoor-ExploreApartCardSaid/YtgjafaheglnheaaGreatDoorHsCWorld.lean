/- Package world: how a world lies in the heap, each part in blocks of its own colour, and that a part stays where other blocks change. Conditions: none but those told. -/
import Derived.Test.YtgjafaheglnheaaGreatDoorHsCMach
import Derived.Test.YtgjafaheglnheaaGreatDoorHsCIdle
import Derived.Test.YtgjafaheglnheaaGreatDoorHsCRing2
import Derived.Test.YtgjafaheglnheaaGreatDoorHsCSource
set_option maxRecDepth 20000
namespace Go.Tr
open Go.Proofs (Tryz.prog)

/-- A machine. -/
structure Mc where
  place : Int
  p : Int
  g : Int
  next : Int
  got : Int
  target : Int
  i : Int
  spin : Bool
  inn : Bool
  rest : List Int
  back : Int
  after : Int
  arg : Int
  ln : Int
  ls : Int
  stage : Int
  ticket : Int
  times : Int
/-- Its cells. -/
def Mc.cs (m : Mc) (rv : Value) : List Value :=
  [i64 m.place, i64 m.p, i64 m.g, i64 m.next, i64 m.got, i64 m.target, i64 m.i, .bool m.spin, .bool m.inn, rv, i64 m.back, i64 m.after, i64 m.arg, i64 m.ln, i64 m.ls, i64 m.stage, u64 m.ticket, i64 m.times]
/-- A machine at first. -/
def Mc.fresh : Mc := ⟨16, -1, -1, -1, -1, -1, 0, false, false, [], 0, 0, 0, 0, 0, 0, 0, 0⟩

/-- A world. -/
structure Wm where
  P : Nat
  M : Nat
  G : Nat
  mem : Mem
  rings : Nat → Rg
  turns : Nat → Int
  queue : List Int
  src : Src
  idle : Idl
  all : Nat → Mc
  flag : Nat → Bool
  log : List Ev

namespace Wm
/-- Where the number of those who look stands in memory; the notes; the goroutines. -/
def spinning (x : Wm) : Nat := 2 * (x.P + 2)
def notes (x : Wm) : Nat := x.spinning + 1
def tab (x : Wm) : Nat := x.notes + x.M
end Wm

inductive Role where
  | none | world | mem | rings | ring (p : Nat) | turns | queue | source | idle | all | rest (i : Nat) | flag | log

/-- Where a world lies. -/
structure Lay where
  b : Nat
  mb : Nat
  wb : Nat
  rb : Nat
  rc : Nat
  rp : Nat → Nat
  tb : Nat
  qb : Nat
  qv : Value
  src : SrcL
  ib : Nat
  im : Nat
  iw : Nat
  pv : Value
  mv : Value
  ab : Nat
  ac : Nat
  rv : Nat → Value
  fb : Nat
  lv : Value
  col : Nat → Role

/-- Blocks from here on are coloured anew. -/
def Lay.paint (L : Lay) (n : Nat) (f : Nat → Role) : Lay := { L with col := fun k => if k < n then L.col k else f k }
theorem Lay.paint_old {L : Lay} {n : Nat} {f : Nat → Role} {k : Nat} (h : k < n) : (L.paint n f).col k = L.col k := by simp [Lay.paint, h]
theorem Lay.paint_new {L : Lay} {n : Nat} {f : Nat → Role} {k : Nat} (h : n ≤ k) : (L.paint n f).col k = f k := by simp [Lay.paint]; omega

def Lay.cs (L : Lay) (x : Wm) : Array Value :=
  #[i64 x.P, i64 x.M, i64 x.G, ptr L.mb, i64 x.spinning, i64 x.notes, i64 x.tab, i64 x.G, .slice (some ⟨L.rb, 0, none⟩) x.P L.rc, .slice (some ⟨L.tb, 0, none⟩) x.P x.P, ptr L.qb, ptr L.src.b, ptr L.ib,
    .slice (some ⟨L.ab, 0, none⟩) x.M L.ac, .slice (some ⟨L.fb, 0, none⟩) x.M x.M, L.lv]

/-- The cells of all machines, side by side. -/
structure MachRow (H : Heap) (b n : Nat) (f : Nat → List Value) : Prop where
  blk : ∃ c e, H[b]? = some (.cells c e (0, 0)) ∧ n * 18 ≤ c.size ∧ ∀ i, i < n → ∀ k, k < 18 → c.getD (i * 18 + k) undef = (f i).getD k undef
/-- A row of single cells. -/
structure CellRow (H : Heap) (b n : Nat) (f : Nat → Value) : Prop where
  blk : ∃ c e, H[b]? = some (.cells c e (0, 0)) ∧ n ≤ c.size ∧ ∀ i, i < n → c.getD i undef = f i

theorem MachRow.of_mod {H H' : Heap} {b n : Nat} {f : Nat → List Value} (h : MachRow H b n f) {S : List Nat} (m : Mod H H' S) (hb : b ∉ S) : MachRow H' b n f := by
  obtain ⟨c, e, h1, h2⟩ := h.blk; exact ⟨⟨c, e, m.get h1 hb, h2⟩⟩
theorem CellRow.of_mod {H H' : Heap} {b n : Nat} {f : Nat → Value} (h : CellRow H b n f) {S : List Nat} (m : Mod H H' S) (hb : b ∉ S) : CellRow H' b n f := by
  obtain ⟨c, e, h1, h2⟩ := h.blk; exact ⟨⟨c, e, m.get h1 hb, h2⟩⟩
theorem MachRow.lt {H : Heap} {b n : Nat} {f : Nat → List Value} (h : MachRow H b n f) : b < H.size := by obtain ⟨c, e, h1, _⟩ := h.blk; exact blk_lt h1
theorem CellRow.lt {H : Heap} {b n : Nat} {f : Nat → Value} (h : CellRow H b n f) : b < H.size := by obtain ⟨c, e, h1, _⟩ := h.blk; exact blk_lt h1
theorem MachRow.ok {H : Heap} {b n : Nat} {f : Nat → List Value} (h : MachRow H b n f) {i k : Nat} (hi : i < n) (hk : k < 18) : cellOk H b (i * 18 + k) = true := by
  obtain ⟨c, e, h1, h2, _⟩ := h.blk
  rw [blk_ok h1]; exact Nat.ble_eq_true_of_le (by omega)
theorem MachRow.free {H : Heap} {b n : Nat} {f : Nat → List Value} (h : MachRow H b n f) (o : Nat) : cellFree H b o = true := by obtain ⟨c, e, h1, _⟩ := h.blk; exact blk_free h1
theorem MachRow.cell {H : Heap} {b n : Nat} {f : Nat → List Value} (h : MachRow H b n f) {i k : Nat} (hi : i < n) (hk : k < 18) : cellD H b (i * 18 + k) = (f i).getD k undef := by
  obtain ⟨c, e, h1, _, h3⟩ := h.blk
  rw [blk_cell h1]; exact h3 i hi k hk
theorem CellRow.ok {H : Heap} {b n : Nat} {f : Nat → Value} (h : CellRow H b n f) {i : Nat} (hi : i < n) : cellOk H b i = true := by
  obtain ⟨c, e, h1, h2, _⟩ := h.blk
  rw [blk_ok h1]; exact Nat.ble_eq_true_of_le (by omega)
theorem CellRow.free {H : Heap} {b n : Nat} {f : Nat → Value} (h : CellRow H b n f) (o : Nat) : cellFree H b o = true := by obtain ⟨c, e, h1, _⟩ := h.blk; exact blk_free h1
theorem CellRow.cell {H : Heap} {b n : Nat} {f : Nat → Value} (h : CellRow H b n f) {i : Nat} (hi : i < n) : cellD H b i = f i := by
  obtain ⟨c, e, h1, _, h3⟩ := h.blk
  rw [blk_cell h1]; exact h3 i hi
theorem MachRow.congr {H : Heap} {b n : Nat} {f g : Nat → List Value} (h : MachRow H b n f) (e : ∀ i, i < n → f i = g i) : MachRow H b n g := by
  obtain ⟨c, t, h1, h2, h3⟩ := h.blk
  exact ⟨⟨c, t, h1, h2, fun i hi k hk => by rw [h3 i hi k hk, e i hi]⟩⟩
theorem MachRow.set {H : Heap} {b n : Nat} {f : Nat → List Value} (h : MachRow H b n f) {i k : Nat} (hi : i < n) (hk : k < 18) (hf : ∀ j, j < n → (f j).length = 18) (v : Value) :
    MachRow (setH H b (i * 18 + k) v) b n (fun j => if j = i then (f i).set k v else f j) := by
  obtain ⟨c, t, h1, h2, h3⟩ := h.blk
  refine ⟨⟨c.setIfInBounds (i * 18 + k) v, t, get_setH_self h1, by simpa using h2, fun j hj l hl => ?_⟩⟩
  have hin : i * 18 + k < c.size := by omega
  by_cases hji : j = i
  · subst hji
    rw [if_pos rfl]
    by_cases hkl : k = l
    · subst hkl
      simp [hin, hf j hj, hl]
    · have := h3 j hj l hl
      simp [Array.getD_eq_getD_getElem?, Array.getElem?_setIfInBounds_ne (show j * 18 + k ≠ j * 18 + l by omega), hkl] at this ⊢
      rw [this]
  · rw [if_neg hji]
    have := h3 j hj l hl
    simp [Array.getD_eq_getD_getElem?, Array.getElem?_setIfInBounds_ne (show i * 18 + k ≠ j * 18 + l by omega)] at this ⊢
    rw [this]
theorem CellRow.set {H : Heap} {b n : Nat} {f : Nat → Value} (h : CellRow H b n f) {i : Nat} (hi : i < n) (v : Value) : CellRow (setH H b i v) b n (fun j => if j = i then v else f j) := by
  obtain ⟨c, t, h1, h2, h3⟩ := h.blk
  refine ⟨⟨c.setIfInBounds i v, t, get_setH_self h1, by simpa using h2, fun j hj => ?_⟩⟩
  have hin : i < c.size := by omega
  by_cases hji : j = i
  · subst hji; simp [hin]
  · rw [if_neg hji]
    have := h3 j hj
    simp [Array.getD_eq_getD_getElem?, Array.getElem?_setIfInBounds_ne (Ne.symm hji)] at this ⊢
    rw [this]

/-- Each part of a world, in the blocks of its colour. -/
def Comp (L : Lay) (x : Wm) (H : Heap) : Role → Prop
  | .none => True
  | .world => Blk H L.b (L.cs x) 193 ∧ L.col L.b = .world
  | .mem => MemAt H L.mb L.wb x.mem ∧ L.col L.mb = .mem ∧ L.col L.wb = .mem
  | .rings => CellRow H L.rb x.P (fun p => ptr (L.rp p)) ∧ L.col L.rb = .rings
  | .ring p => p < x.P → RingAt H (L.rp p) (x.rings p) ∧ L.col (L.rp p) = .ring p
  | .turns => CellRow H L.tb x.P (fun p => i64 (x.turns p)) ∧ L.col L.tb = .turns
  | .queue => QueueAt H L.qb L.qv x.queue x.P ∧ L.col L.qb = .queue ∧ ∀ c, blkOf L.qv = some c → L.col c = .queue
  | .source => SrcAt H L.src x.src ∧ ∀ c ∈ L.src.foot, L.col c = .source
  | .idle => IdleAt H L.ib L.im L.iw L.pv L.mv x.idle ∧ ∀ c ∈ idleFoot L.ib L.im L.iw L.pv L.mv, L.col c = .idle
  | .all => MachRow H L.ab x.M (fun i => (x.all i).cs (L.rv i)) ∧ L.col L.ab = .all
  | .rest i => i < x.M → Owns H 1 3 (L.rv i) ((x.all i).rest.map i64) ∧ ∀ c, blkOf (L.rv i) = some c → L.col c = .rest i
  | .flag => CellRow H L.fb x.M (fun i => .bool (x.flag i)) ∧ L.col L.fb = .flag
  | .log => Owns H 5 43 L.lv (x.log.flatMap Ev.cs) ∧ ∀ c, blkOf L.lv = some c → L.col c = .log

theorem RingAt.size {H : Heap} {b : Nat} {r : Rg} (h : RingAt H b r) : b < H.size := by obtain ⟨s, hd, h1, _⟩ := h; exact h1.lt
theorem RingAt.of_mod' {H H' : Heap} {b : Nat} {r : Rg} (h : RingAt H b r) {S : List Nat} (m : Mod H H' S) (hb : b ∉ S) : RingAt H' b r := by obtain ⟨s, hd, h1, h2⟩ := h; exact ⟨s, hd, h1.of_mod m hb, h2⟩

/-- A part stays where blocks of other colours change, and what is new is of whatever colour. -/
theorem Comp.frame {L : Lay} {x : Wm} {H H' : Heap} {r : Role} (h : Comp L x H r) {S : List Nat} (m : Mod H H' S) (hs : ∀ k ∈ S, k < H.size → L.col k ≠ r) (f : Nat → Role) : Comp (L.paint H.size f) x H' r := by
  have no : ∀ {k}, k < H.size → L.col k = r → k ∉ S := fun hk hc hm => hs _ hm hk hc
  cases r with
  | none => trivial
  | world => exact ⟨m.get h.1 (no (blk_lt h.1) h.2), (Lay.paint_old (blk_lt h.1)).trans h.2⟩
  | mem =>
    obtain ⟨h1, h2, h3⟩ := h
    exact ⟨h1.of_mod m (no h1.lt.1 h2) (no h1.lt.2 h3), (Lay.paint_old h1.lt.1).trans h2, (Lay.paint_old h1.lt.2).trans h3⟩
  | rings => exact ⟨h.1.of_mod m (no h.1.lt h.2), (Lay.paint_old h.1.lt).trans h.2⟩
  | ring p =>
    intro hp
    obtain ⟨h1, h2⟩ := h hp
    exact ⟨h1.of_mod' m (no h1.size h2), (Lay.paint_old h1.size).trans h2⟩
  | turns => exact ⟨h.1.of_mod m (no h.1.lt h.2), (Lay.paint_old h.1.lt).trans h.2⟩
  | queue =>
    obtain ⟨h1, h2, h3⟩ := h
    exact ⟨h1.of_mod m (no (blk_lt h1.hdr) h2) (fun c hc => no (h1.owns.lt hc) (h3 c hc)), (Lay.paint_old (blk_lt h1.hdr)).trans h2, fun c hc => (Lay.paint_old (h1.owns.lt hc)).trans (h3 c hc)⟩
  | source =>
    obtain ⟨h1, h2⟩ := h
    exact ⟨h1.of_mod m (fun c hc => no (h1.lt c hc) (h2 c hc)), fun c hc => (Lay.paint_old (h1.lt c hc)).trans (h2 c hc)⟩
  | idle =>
    obtain ⟨h1, h2⟩ := h
    exact ⟨h1.of_mod m (fun c hc => no (h1.lt c hc) (h2 c hc)), fun c hc => (Lay.paint_old (h1.lt c hc)).trans (h2 c hc)⟩
  | all => exact ⟨h.1.of_mod m (no h.1.lt h.2), (Lay.paint_old h.1.lt).trans h.2⟩
  | rest i =>
    intro hi
    obtain ⟨h1, h2⟩ := h hi
    exact ⟨h1.of_mod m (fun c hc => no (h1.lt hc) (h2 c hc)), fun c hc => (Lay.paint_old (h1.lt hc)).trans (h2 c hc)⟩
  | flag => exact ⟨h.1.of_mod m (no h.1.lt h.2), (Lay.paint_old h.1.lt).trans h.2⟩
  | log =>
    obtain ⟨h1, h2⟩ := h
    exact ⟨h1.of_mod m (fun c hc => no (h1.lt hc) (h2 c hc)), fun c hc => (Lay.paint_old (h1.lt hc)).trans (h2 c hc)⟩

/-- A world lies in the heap; its blocks are from gb on. -/
structure WAt (gb : Nat) (H : Heap) (L : Lay) (x : Wm) : Prop where
  comp : ∀ r, Comp L x H r
  own : ∀ k, k < gb → L.col k = .none
  glob : Glob gb H

/-- What is not of the world is as it was, and is not of it. -/
structure Upd (H H' : Heap) (L L' : Lay) : Prop where
  b : L'.b = L.b
  size : H.size ≤ H'.size
  old : ∀ k, k < H.size → L.col k = .none → H'[k]? = H[k]? ∧ L'.col k = .none
theorem Upd.refl (H : Heap) (L : Lay) : Upd H H L L := ⟨rfl, Nat.le_refl _, fun _ _ h => ⟨rfl, h⟩⟩
theorem Upd.trans {H H' H'' : Heap} {L L' L'' : Lay} (h : Upd H H' L L') (k : Upd H' H'' L' L'') : Upd H H'' L L'' :=
  ⟨k.b.trans h.b, Nat.le_trans h.size k.size, fun i hi hc => by
    obtain ⟨h1, h2⟩ := h.old i hi hc
    obtain ⟨h3, h4⟩ := k.old i (Nat.lt_of_lt_of_le hi h.size) h2
    exact ⟨h3.trans h1, h4⟩⟩

section
variable {gb : Nat} {H H' : Heap} {L L' : Lay} {x x' : Wm} {S : List Nat}
/-- Some parts change, all others stay. -/
theorem WAt.upd (h : WAt gb H L x) (m : Mod H H' S) (f : Nat → Role) (hcol : L'.col = (L.paint H.size f).col) (hb : L'.b = L.b) (D : Role → Prop) (hS : ∀ k ∈ S, k < H.size → D (L.col k)) (hD : ¬ D .none)
    (hsame : ∀ r, ¬ D r → Comp (L.paint H.size f) x H' r → Comp L' x' H' r) (hnew : ∀ r, D r → Comp L' x' H' r) : WAt gb H' L' x' ∧ Upd H H' L L' := by
  refine ⟨⟨fun r => ?_, fun k hk => ?_, ?_⟩, hb, m.size, fun k hk hc => ⟨m.old k hk fun hm => hD (hc ▸ hS k hm hk), ?_⟩⟩
  · by_cases hr : D r
    · exact hnew r hr
    · exact hsame r hr ((h.comp r).frame m (fun k hk hlt e => hr (e ▸ hS k hk hlt)) f)
  · rw [hcol, Lay.paint_old (Nat.lt_of_lt_of_le hk h.glob.le)]; exact h.own k hk
  · refine h.glob.of_mod m fun k hk => ?_
    rcases Nat.lt_or_ge k gb with hlt | hge
    · exfalso
      have := hS k hk (Nat.lt_of_lt_of_le hlt h.glob.le)
      rw [h.own k hlt] at this
      exact hD this
    · exact hge
  · rw [hcol, Lay.paint_old hk]; exact hc

/-- Only what is new was made. -/
theorem WAt.scratch (h : WAt gb H L x) (m : Mod H H' []) (f : Nat → Role) : WAt gb H' (L.paint H.size f) x ∧ Upd H H' L (L.paint H.size f) :=
  h.upd m f rfl rfl (fun _ => False) (by simp) (by simp) (fun r _ hc => hc) (fun r hr => hr.elim)

theorem WAt.mem (h : WAt gb H L x) {m' : Mem} (t : MemTo H H' L.mb L.wb m') (f : Nat → Role) : WAt gb H' (L.paint H.size f) { x with mem := m' } ∧ Upd H H' L (L.paint H.size f) := by
  obtain ⟨h1, h2, h3⟩ := h.comp .mem
  refine h.upd t.mod f rfl rfl (fun r => r = .mem) ?_ (by simp) ?_ ?_
  · intro k hk _; simp at hk; rcases hk with rfl | rfl <;> assumption
  · intro r hr hc; cases r <;> first | exact hc | exact absurd rfl hr
  · rintro r rfl
    exact ⟨t.now, (Lay.paint_old h1.lt.1).trans h2, (Lay.paint_old h1.lt.2).trans h3⟩

theorem WAt.queue (h : WAt gb H L x) {v' : Value} {xs' : List Int} (t : QueueTo H H' L.qb L.qv v' xs' x.P) (f : Nat → Role) (hf : ∀ c, blkOf v' = some c → H.size ≤ c → f c = .queue) :
    WAt gb H' { L.paint H.size f with qv := v' } { x with queue := xs' } ∧ Upd H H' L { L.paint H.size f with qv := v' } := by
  obtain ⟨h1, h2, h3⟩ := h.comp .queue
  refine h.upd t.mod f rfl rfl (fun r => r = .queue) ?_ (by simp) ?_ ?_
  · intro k hk _; simp at hk
    rcases hk with rfl | hk
    · exact h2
    · exact h3 k hk
  · intro r hr hc; cases r <;> first | exact hc | exact absurd rfl hr
  · rintro r rfl
    refine ⟨t.now, (Lay.paint_old (blk_lt h1.hdr)).trans h2, fun c hc => ?_⟩
    rcases t.blk with hh | hh | ⟨nb, hh, hl⟩
    · rw [hh] at hc; cases hc
    · rw [hh] at hc; exact (Lay.paint_old (h1.owns.lt hc)).trans (h3 c hc)
    · rw [hh] at hc; cases hc; exact (Lay.paint_new hl).trans (hf _ hh hl)

def setF {α : Type} (f : Nat → α) (i : Nat) (a : α) : Nat → α := fun j => if j = i then a else f j
@[simp] theorem setF_self {α : Type} (f : Nat → α) (i : Nat) (a : α) : setF f i a i = a := by simp [setF]
theorem setF_ne {α : Type} {f : Nat → α} {i j : Nat} {a : α} (h : j ≠ i) : setF f i a j = f j := by simp [setF, h]

theorem WAt.ring (h : WAt gb H L x) {p : Nat} (hp : p < x.P) {r' : Rg} (t : RingTo H H' (L.rp p) r') (f : Nat → Role) :
    WAt gb H' (L.paint H.size f) { x with rings := setF x.rings p r' } ∧ Upd H H' L (L.paint H.size f) := by
  obtain ⟨h1, h2⟩ := h.comp (.ring p) hp
  refine h.upd t.mod f rfl rfl (fun r => r = .ring p) ?_ (by simp) ?_ ?_
  · intro k hk _; simp at hk; rw [hk]; exact h2
  · intro r hr hc
    cases r
    case ring q =>
      intro hq
      have hne : q ≠ p := fun e => hr (by rw [e])
      have := hc hq
      rw [show ({ x with rings := setF x.rings p r' } : Wm).rings q = x.rings q from setF_ne hne]
      exact this
    all_goals exact hc
  · rintro r rfl
    intro _
    simp only [setF_self]
    exact ⟨t.now, (Lay.paint_old h1.size).trans h2⟩

theorem WAt.idle (h : WAt gb H L x) {pv' mv' : Value} {i' : Idl} (t : IdleTo H H' L.ib L.im L.iw L.pv L.mv pv' mv' i') :
    WAt gb H' { L.paint H.size (fun _ => .idle) with pv := pv', mv := mv' } { x with idle := i' } ∧ Upd H H' L { L.paint H.size (fun _ => .idle) with pv := pv', mv := mv' } := by
  obtain ⟨h1, h2⟩ := h.comp .idle
  refine h.upd t.mod (fun _ => .idle) rfl rfl (fun r => r = .idle) ?_ (by simp) ?_ ?_
  · intro k hk _; exact h2 k hk
  · intro r hr hc; cases r <;> first | exact hc | exact absurd rfl hr
  · rintro r rfl
    refine ⟨t.now, fun c hc => ?_⟩
    show (L.paint H.size fun _ => .idle).col c = .idle
    rcases t.foot c hc with hh | hh
    · exact (Lay.paint_old (h1.lt c hh)).trans (h2 c hh)
    · exact Lay.paint_new (f := fun _ => .idle) hh

theorem WAt.setFlag (h : WAt gb H L x) {i : Nat} (hi : i < x.M) (v : Bool) : WAt gb (setH H L.fb i (.bool v)) (L.paint H.size fun _ => .none) { x with flag := setF x.flag i v } ∧ Upd H (setH H L.fb i (.bool v)) L (L.paint H.size fun _ => .none) := by
  obtain ⟨h1, h2⟩ := h.comp .flag
  refine h.upd (S := [L.fb]) (Mod.setH _ _ _ (by simp)) _ rfl rfl (fun r => r = .flag) ?_ (by simp) ?_ ?_
  · intro k hk _; simp at hk; rw [hk]; exact h2
  · intro r hr hc; cases r <;> first | exact hc | exact absurd rfl hr
  · rintro r rfl
    refine ⟨?_, (Lay.paint_old h1.lt).trans h2⟩
    obtain ⟨c, e, k1, k2, k3⟩ := (h1.set hi (.bool v)).blk
    exact ⟨⟨c, e, k1, k2, fun j hj => by rw [k3 j hj]; show _ = Value.bool (setF x.flag i v j); unfold setF; split <;> rfl⟩⟩

theorem WAt.setTurns (h : WAt gb H L x) {p : Nat} (hp : p < x.P) (v : Int) : WAt gb (setH H L.tb p (i64 v)) (L.paint H.size fun _ => .none) { x with turns := setF x.turns p v } ∧ Upd H (setH H L.tb p (i64 v)) L (L.paint H.size fun _ => .none) := by
  obtain ⟨h1, h2⟩ := h.comp .turns
  refine h.upd (S := [L.tb]) (Mod.setH _ _ _ (by simp)) _ rfl rfl (fun r => r = .turns) ?_ (by simp) ?_ ?_
  · intro k hk _; simp at hk; rw [hk]; exact h2
  · intro r hr hc; cases r <;> first | exact hc | exact absurd rfl hr
  · rintro r rfl
    refine ⟨?_, (Lay.paint_old h1.lt).trans h2⟩
    obtain ⟨c, e, k1, k2, k3⟩ := (h1.set hp (i64 v)).blk
    exact ⟨⟨c, e, k1, k2, fun j hj => by rw [k3 j hj]; show _ = i64 (setF x.turns p v j); unfold setF; split <;> rfl⟩⟩

/-- A machine's field, other than its row. -/
theorem WAt.setM (h : WAt gb H L x) {i k : Nat} (hi : i < x.M) (hk : k < 18) {v : Value} {m' : Mc} (hm : m'.cs (L.rv i) = ((x.all i).cs (L.rv i)).set k v) (hr : m'.rest = (x.all i).rest) :
    WAt gb (setH H L.ab (i * 18 + k) v) (L.paint H.size fun _ => .none) { x with all := setF x.all i m' } ∧ Upd H (setH H L.ab (i * 18 + k) v) L (L.paint H.size fun _ => .none) := by
  obtain ⟨h1, h2⟩ := h.comp .all
  refine h.upd (S := [L.ab]) (Mod.setH _ _ _ (by simp)) _ rfl rfl (fun r => r = .all) ?_ (by simp) ?_ ?_
  · intro k hk _; simp at hk; rw [hk]; exact h2
  · intro r hr' hc
    cases r
    case all => exact absurd rfl hr'
    case rest j =>
      intro hj
      have := hc hj
      have e : (setF x.all i m' j).rest = (x.all j).rest := by unfold setF; split <;> simp_all
      rw [show ({ x with all := setF x.all i m' } : Wm).all j = setF x.all i m' j from rfl, e]
      exact this
    all_goals exact hc
  · rintro r rfl
    refine ⟨(h1.set hi hk (by intro j _; rfl) v).congr fun j hj => ?_, (Lay.paint_old h1.lt).trans h2⟩
    by_cases hji : j = i
    · subst hji; simp only [if_pos, setF_self]; exact hm.symm
    · simp only [if_neg hji]; show _ = Mc.cs (setF x.all i m' j) (L.rv j); rw [setF_ne hji]

/-- A machine's row. -/
theorem WAt.setRest (h : WAt gb H L x) {i : Nat} (hi : i < x.M) {v : Value} {l : List Int} (ho : Owns H 1 3 v (l.map i64)) (hc : ∀ c, blkOf v = some c → L.col c = .rest i) :
    WAt gb (setH H L.ab (i * 18 + 9) v) { L.paint H.size (fun _ => .none) with rv := setF L.rv i v } { x with all := setF x.all i { x.all i with rest := l } } ∧
      Upd H (setH H L.ab (i * 18 + 9) v) L { L.paint H.size (fun _ => .none) with rv := setF L.rv i v } := by
  obtain ⟨h1, h2⟩ := h.comp .all
  have m : Mod H (setH H L.ab (i * 18 + 9) v) [L.ab] := Mod.setH _ _ _ (by simp)
  refine h.upd m _ rfl rfl (fun r => r = .all ∨ r = .rest i) ?_ (by simp) ?_ ?_
  · intro k hk _; simp at hk; rw [hk]; exact .inl h2
  · intro r hr' hcr
    cases r
    case all => exact absurd (.inl rfl) hr'
    case rest j =>
      have hji : j ≠ i := fun e => hr' (.inr (by rw [e]))
      intro hj
      have := hcr hj
      rw [show ({ x with all := setF x.all i { x.all i with rest := l } } : Wm).all j = x.all j from setF_ne hji]
      rw [show ({ L.paint H.size (fun _ => .none) with rv := setF L.rv i v } : Lay).rv j = L.rv j from setF_ne hji]
      exact this
    all_goals exact hcr
  · rintro r (rfl | rfl)
    · refine ⟨(h1.set hi (by decide) (by intro j _; rfl) v).congr fun j hj => ?_, (Lay.paint_old (f := fun _ => .none) h1.lt).trans h2⟩
      by_cases hji : j = i
      · subst hji; simp only [if_pos, setF_self]; rfl
      · simp only [if_neg hji]
        show _ = Mc.cs (setF x.all i { x.all i with rest := l } j) (setF L.rv i v j)
        rw [setF_ne hji, setF_ne hji]
    · intro _
      simp only [setF_self]
      refine ⟨ho.of_mod m fun c hcv => ?_, fun c hcv => (Lay.paint_old (f := fun _ => .none) (ho.lt hcv)).trans (hc c hcv)⟩
      simp; rintro rfl
      have := hc _ hcv
      rw [h2] at this; cases this

theorem WAt.logAt (h : WAt gb H L x) : LogAt H L.b 15 L.lv x.log := by
  obtain ⟨h1, h2⟩ := h.comp .world
  obtain ⟨h3, h4⟩ := h.comp .log
  exact ⟨by rw [blk_ok h1]; rfl, blk_free h1, by rw [blk_cell h1]; rfl, h3, fun e => by have := h4 _ e; rw [h2] at this; cases this⟩

theorem WAt.setLog (h : WAt gb H L x) {e : Ev} {v' : Value} (hl : LogAt H' L.b 15 v' (x.log ++ [e])) (hb : H'[L.b]? = (setH H L.b 15 v')[L.b]?) (m : Mod H H' (L.b :: (blkOf L.lv).toList))
    (hv : blkOf v' = blkOf L.lv ∨ ∃ nb, blkOf v' = some nb ∧ H.size ≤ nb) :
    WAt gb H' { L.paint H.size (fun _ => .log) with lv := v' } { x with log := x.log ++ [e] } ∧ Upd H H' L { L.paint H.size (fun _ => .log) with lv := v' } := by
  obtain ⟨h1, h2⟩ := h.comp .world
  obtain ⟨h3, h4⟩ := h.comp .log
  refine h.upd m _ rfl rfl (fun r => r = .world ∨ r = .log) ?_ (by simp) ?_ ?_
  · intro k hk _
    simp at hk
    rcases hk with rfl | hk
    · exact .inl h2
    · exact .inr (h4 k hk)
  · intro r hr hc; cases r <;> first | exact hc | exact absurd (.inl rfl) hr | exact absurd (.inr rfl) hr
  · rintro r (rfl | rfl)
    · refine ⟨?_, (Lay.paint_old (f := fun _ => .log) (blk_lt h1)).trans h2⟩
      show H'[L.b]? = _
      rw [hb, get_setH_self h1]
      rfl
    · refine ⟨hl.owns, fun c hc => ?_⟩
      rcases hv with hh | ⟨nb, hh, hle⟩
      · rw [hh] at hc; exact (Lay.paint_old (f := fun _ => .log) (h3.lt hc)).trans (h4 c hc)
      · rw [hh] at hc; cases hc; exact Lay.paint_new (f := fun _ => .log) hle
end

end Go.Tr
