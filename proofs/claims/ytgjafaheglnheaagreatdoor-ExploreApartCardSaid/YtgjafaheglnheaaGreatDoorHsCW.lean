/- Package world: a world and what lies beside it, told as one; the laws for the steps of a walk. Conditions: none but those told. -/
import Derived.Test.YtgjafaheglnheaaGreatDoorHsCWorld
import Derived.Test.YtgjafaheglnheaaGreatDoorHsTW
set_option maxRecDepth 20000
namespace Go.Tr
open Go.Proofs (Tryz.prog)
open Go.Proofs.Tryz (prog)

/-- Where the parts lie that stay where they are. -/
structure Fix where
  b : Nat
  mb : Nat
  wb : Nat
  rb : Nat
  rc : Nat
  rp : Nat → Nat
  tb : Nat
  qb : Nat
  sb : Nat
  ib : Nat
  im : Nat
  iw : Nat
  ab : Nat
  ac : Nat
  fb : Nat
def Lay.fix (L : Lay) : Fix := ⟨L.b, L.mb, L.wb, L.rb, L.rc, L.rp, L.tb, L.qb, L.src.b, L.ib, L.im, L.iw, L.ab, L.ac, L.fb⟩

/-- Blocks beside a world. -/
abbrev Side := Nat → Option Obj
def Side.put (O : Side) (b : Nat) (o : Obj) : Side := fun k => if k = b then some o else O k
@[simp] theorem Side.put_self (O : Side) (b : Nat) (o : Obj) : O.put b o b = some o := by simp [Side.put]
theorem Side.put_ne {O : Side} {b k : Nat} {o : Obj} (h : k ≠ b) : O.put b o k = O k := by simp [Side.put, h]

/-- The numbers of a world fit. -/
structure WFits (x : Wm) : Prop where
  P : 1 ≤ x.P ∧ x.P ≤ 64
  M : x.P ≤ x.M ∧ x.M ≤ 128
  G : 1 ≤ x.G ∧ x.G ≤ 4096
  W : x.mem.W.length = x.tab + x.G
/-- A world, and blocks beside it. -/
structure WIn (gb : Nat) (K : Fix) (O : Side) (H : Heap) (x : Wm) (L : Lay) : Prop where
  fix : L.fix = K
  fit : WFits x
  at_ : WAt gb H L x
  side : ∀ k o, O k = some o → H[k]? = some o ∧ L.col k = .none
def W (gb : Nat) (K : Fix) (O : Side) (H : Heap) (x : Wm) : Prop := ∃ L, WIn gb K O H x L

/-! ### The model's changes -/
namespace Wm
def upd (x : Wm) (i : Nat) (f : Mc → Mc) : Wm := { x with all := setF x.all i (f (x.all i)) }
def flagged (x : Wm) (i : Nat) (b : Bool) : Wm := { x with flag := setF x.flag i b }
def turned (x : Wm) (i : Nat) (v : Int) : Wm := { x with turns := setF x.turns i v }
def withMem (x : Wm) (m : Mem) : Wm := { x with mem := m }
def withRing (x : Wm) (i : Nat) (r : Rg) : Wm := { x with rings := setF x.rings i r }
def withQueue (x : Wm) (l : List Int) : Wm := { x with queue := l }
def withIdle (x : Wm) (d : Idl) : Wm := { x with idle := d }
def withSrc (x : Wm) (s : Src) : Wm := { x with src := s }
def withLog (x : Wm) (e : List Ev) : Wm := { x with log := e }
def logged (x : Wm) (e : Ev) : Wm := if e.right = true then x.withLog (x.log ++ [e]) else x
@[simp] theorem upd_P (x : Wm) (i : Nat) (f : Mc → Mc) : (x.upd i f).P = x.P := rfl
@[simp] theorem upd_M (x : Wm) (i : Nat) (f : Mc → Mc) : (x.upd i f).M = x.M := rfl
@[simp] theorem upd_G (x : Wm) (i : Nat) (f : Mc → Mc) : (x.upd i f).G = x.G := rfl
@[simp] theorem upd_mem (x : Wm) (i : Nat) (f : Mc → Mc) : (x.upd i f).mem = x.mem := rfl
@[simp] theorem upd_rings (x : Wm) (i : Nat) (f : Mc → Mc) : (x.upd i f).rings = x.rings := rfl
@[simp] theorem upd_turns (x : Wm) (i : Nat) (f : Mc → Mc) : (x.upd i f).turns = x.turns := rfl
@[simp] theorem upd_queue (x : Wm) (i : Nat) (f : Mc → Mc) : (x.upd i f).queue = x.queue := rfl
@[simp] theorem upd_src (x : Wm) (i : Nat) (f : Mc → Mc) : (x.upd i f).src = x.src := rfl
@[simp] theorem upd_idle (x : Wm) (i : Nat) (f : Mc → Mc) : (x.upd i f).idle = x.idle := rfl
@[simp] theorem upd_all (x : Wm) (i : Nat) (f : Mc → Mc) : (x.upd i f).all = setF x.all i (f (x.all i)) := rfl
@[simp] theorem upd_flag (x : Wm) (i : Nat) (f : Mc → Mc) : (x.upd i f).flag = x.flag := rfl
@[simp] theorem upd_log (x : Wm) (i : Nat) (f : Mc → Mc) : (x.upd i f).log = x.log := rfl
@[simp] theorem upd_spinning (x : Wm) (i : Nat) (f : Mc → Mc) : (x.upd i f).spinning = x.spinning := rfl
@[simp] theorem upd_notes (x : Wm) (i : Nat) (f : Mc → Mc) : (x.upd i f).notes = x.notes := rfl
@[simp] theorem upd_tab (x : Wm) (i : Nat) (f : Mc → Mc) : (x.upd i f).tab = x.tab := rfl
@[simp] theorem flagged_P (x : Wm) (i : Nat) (b : Bool) : (x.flagged i b).P = x.P := rfl
@[simp] theorem flagged_M (x : Wm) (i : Nat) (b : Bool) : (x.flagged i b).M = x.M := rfl
@[simp] theorem flagged_G (x : Wm) (i : Nat) (b : Bool) : (x.flagged i b).G = x.G := rfl
@[simp] theorem flagged_mem (x : Wm) (i : Nat) (b : Bool) : (x.flagged i b).mem = x.mem := rfl
@[simp] theorem flagged_rings (x : Wm) (i : Nat) (b : Bool) : (x.flagged i b).rings = x.rings := rfl
@[simp] theorem flagged_turns (x : Wm) (i : Nat) (b : Bool) : (x.flagged i b).turns = x.turns := rfl
@[simp] theorem flagged_queue (x : Wm) (i : Nat) (b : Bool) : (x.flagged i b).queue = x.queue := rfl
@[simp] theorem flagged_src (x : Wm) (i : Nat) (b : Bool) : (x.flagged i b).src = x.src := rfl
@[simp] theorem flagged_idle (x : Wm) (i : Nat) (b : Bool) : (x.flagged i b).idle = x.idle := rfl
@[simp] theorem flagged_all (x : Wm) (i : Nat) (b : Bool) : (x.flagged i b).all = x.all := rfl
@[simp] theorem flagged_flag (x : Wm) (i : Nat) (b : Bool) : (x.flagged i b).flag = setF x.flag i b := rfl
@[simp] theorem flagged_log (x : Wm) (i : Nat) (b : Bool) : (x.flagged i b).log = x.log := rfl
@[simp] theorem flagged_spinning (x : Wm) (i : Nat) (b : Bool) : (x.flagged i b).spinning = x.spinning := rfl
@[simp] theorem flagged_notes (x : Wm) (i : Nat) (b : Bool) : (x.flagged i b).notes = x.notes := rfl
@[simp] theorem flagged_tab (x : Wm) (i : Nat) (b : Bool) : (x.flagged i b).tab = x.tab := rfl
@[simp] theorem turned_P (x : Wm) (i : Nat) (v : Int) : (x.turned i v).P = x.P := rfl
@[simp] theorem turned_M (x : Wm) (i : Nat) (v : Int) : (x.turned i v).M = x.M := rfl
@[simp] theorem turned_G (x : Wm) (i : Nat) (v : Int) : (x.turned i v).G = x.G := rfl
@[simp] theorem turned_mem (x : Wm) (i : Nat) (v : Int) : (x.turned i v).mem = x.mem := rfl
@[simp] theorem turned_rings (x : Wm) (i : Nat) (v : Int) : (x.turned i v).rings = x.rings := rfl
@[simp] theorem turned_turns (x : Wm) (i : Nat) (v : Int) : (x.turned i v).turns = setF x.turns i v := rfl
@[simp] theorem turned_queue (x : Wm) (i : Nat) (v : Int) : (x.turned i v).queue = x.queue := rfl
@[simp] theorem turned_src (x : Wm) (i : Nat) (v : Int) : (x.turned i v).src = x.src := rfl
@[simp] theorem turned_idle (x : Wm) (i : Nat) (v : Int) : (x.turned i v).idle = x.idle := rfl
@[simp] theorem turned_all (x : Wm) (i : Nat) (v : Int) : (x.turned i v).all = x.all := rfl
@[simp] theorem turned_flag (x : Wm) (i : Nat) (v : Int) : (x.turned i v).flag = x.flag := rfl
@[simp] theorem turned_log (x : Wm) (i : Nat) (v : Int) : (x.turned i v).log = x.log := rfl
@[simp] theorem turned_spinning (x : Wm) (i : Nat) (v : Int) : (x.turned i v).spinning = x.spinning := rfl
@[simp] theorem turned_notes (x : Wm) (i : Nat) (v : Int) : (x.turned i v).notes = x.notes := rfl
@[simp] theorem turned_tab (x : Wm) (i : Nat) (v : Int) : (x.turned i v).tab = x.tab := rfl
@[simp] theorem withMem_P (x : Wm) (m : Mem) : (x.withMem m).P = x.P := rfl
@[simp] theorem withMem_M (x : Wm) (m : Mem) : (x.withMem m).M = x.M := rfl
@[simp] theorem withMem_G (x : Wm) (m : Mem) : (x.withMem m).G = x.G := rfl
@[simp] theorem withMem_mem (x : Wm) (m : Mem) : (x.withMem m).mem = m := rfl
@[simp] theorem withMem_rings (x : Wm) (m : Mem) : (x.withMem m).rings = x.rings := rfl
@[simp] theorem withMem_turns (x : Wm) (m : Mem) : (x.withMem m).turns = x.turns := rfl
@[simp] theorem withMem_queue (x : Wm) (m : Mem) : (x.withMem m).queue = x.queue := rfl
@[simp] theorem withMem_src (x : Wm) (m : Mem) : (x.withMem m).src = x.src := rfl
@[simp] theorem withMem_idle (x : Wm) (m : Mem) : (x.withMem m).idle = x.idle := rfl
@[simp] theorem withMem_all (x : Wm) (m : Mem) : (x.withMem m).all = x.all := rfl
@[simp] theorem withMem_flag (x : Wm) (m : Mem) : (x.withMem m).flag = x.flag := rfl
@[simp] theorem withMem_log (x : Wm) (m : Mem) : (x.withMem m).log = x.log := rfl
@[simp] theorem withMem_spinning (x : Wm) (m : Mem) : (x.withMem m).spinning = x.spinning := rfl
@[simp] theorem withMem_notes (x : Wm) (m : Mem) : (x.withMem m).notes = x.notes := rfl
@[simp] theorem withMem_tab (x : Wm) (m : Mem) : (x.withMem m).tab = x.tab := rfl
@[simp] theorem withRing_P (x : Wm) (i : Nat) (r : Rg) : (x.withRing i r).P = x.P := rfl
@[simp] theorem withRing_M (x : Wm) (i : Nat) (r : Rg) : (x.withRing i r).M = x.M := rfl
@[simp] theorem withRing_G (x : Wm) (i : Nat) (r : Rg) : (x.withRing i r).G = x.G := rfl
@[simp] theorem withRing_mem (x : Wm) (i : Nat) (r : Rg) : (x.withRing i r).mem = x.mem := rfl
@[simp] theorem withRing_rings (x : Wm) (i : Nat) (r : Rg) : (x.withRing i r).rings = setF x.rings i r := rfl
@[simp] theorem withRing_turns (x : Wm) (i : Nat) (r : Rg) : (x.withRing i r).turns = x.turns := rfl
@[simp] theorem withRing_queue (x : Wm) (i : Nat) (r : Rg) : (x.withRing i r).queue = x.queue := rfl
@[simp] theorem withRing_src (x : Wm) (i : Nat) (r : Rg) : (x.withRing i r).src = x.src := rfl
@[simp] theorem withRing_idle (x : Wm) (i : Nat) (r : Rg) : (x.withRing i r).idle = x.idle := rfl
@[simp] theorem withRing_all (x : Wm) (i : Nat) (r : Rg) : (x.withRing i r).all = x.all := rfl
@[simp] theorem withRing_flag (x : Wm) (i : Nat) (r : Rg) : (x.withRing i r).flag = x.flag := rfl
@[simp] theorem withRing_log (x : Wm) (i : Nat) (r : Rg) : (x.withRing i r).log = x.log := rfl
@[simp] theorem withRing_spinning (x : Wm) (i : Nat) (r : Rg) : (x.withRing i r).spinning = x.spinning := rfl
@[simp] theorem withRing_notes (x : Wm) (i : Nat) (r : Rg) : (x.withRing i r).notes = x.notes := rfl
@[simp] theorem withRing_tab (x : Wm) (i : Nat) (r : Rg) : (x.withRing i r).tab = x.tab := rfl
@[simp] theorem withQueue_P (x : Wm) (l : List Int) : (x.withQueue l).P = x.P := rfl
@[simp] theorem withQueue_M (x : Wm) (l : List Int) : (x.withQueue l).M = x.M := rfl
@[simp] theorem withQueue_G (x : Wm) (l : List Int) : (x.withQueue l).G = x.G := rfl
@[simp] theorem withQueue_mem (x : Wm) (l : List Int) : (x.withQueue l).mem = x.mem := rfl
@[simp] theorem withQueue_rings (x : Wm) (l : List Int) : (x.withQueue l).rings = x.rings := rfl
@[simp] theorem withQueue_turns (x : Wm) (l : List Int) : (x.withQueue l).turns = x.turns := rfl
@[simp] theorem withQueue_queue (x : Wm) (l : List Int) : (x.withQueue l).queue = l := rfl
@[simp] theorem withQueue_src (x : Wm) (l : List Int) : (x.withQueue l).src = x.src := rfl
@[simp] theorem withQueue_idle (x : Wm) (l : List Int) : (x.withQueue l).idle = x.idle := rfl
@[simp] theorem withQueue_all (x : Wm) (l : List Int) : (x.withQueue l).all = x.all := rfl
@[simp] theorem withQueue_flag (x : Wm) (l : List Int) : (x.withQueue l).flag = x.flag := rfl
@[simp] theorem withQueue_log (x : Wm) (l : List Int) : (x.withQueue l).log = x.log := rfl
@[simp] theorem withQueue_spinning (x : Wm) (l : List Int) : (x.withQueue l).spinning = x.spinning := rfl
@[simp] theorem withQueue_notes (x : Wm) (l : List Int) : (x.withQueue l).notes = x.notes := rfl
@[simp] theorem withQueue_tab (x : Wm) (l : List Int) : (x.withQueue l).tab = x.tab := rfl
@[simp] theorem withIdle_P (x : Wm) (d : Idl) : (x.withIdle d).P = x.P := rfl
@[simp] theorem withIdle_M (x : Wm) (d : Idl) : (x.withIdle d).M = x.M := rfl
@[simp] theorem withIdle_G (x : Wm) (d : Idl) : (x.withIdle d).G = x.G := rfl
@[simp] theorem withIdle_mem (x : Wm) (d : Idl) : (x.withIdle d).mem = x.mem := rfl
@[simp] theorem withIdle_rings (x : Wm) (d : Idl) : (x.withIdle d).rings = x.rings := rfl
@[simp] theorem withIdle_turns (x : Wm) (d : Idl) : (x.withIdle d).turns = x.turns := rfl
@[simp] theorem withIdle_queue (x : Wm) (d : Idl) : (x.withIdle d).queue = x.queue := rfl
@[simp] theorem withIdle_src (x : Wm) (d : Idl) : (x.withIdle d).src = x.src := rfl
@[simp] theorem withIdle_idle (x : Wm) (d : Idl) : (x.withIdle d).idle = d := rfl
@[simp] theorem withIdle_all (x : Wm) (d : Idl) : (x.withIdle d).all = x.all := rfl
@[simp] theorem withIdle_flag (x : Wm) (d : Idl) : (x.withIdle d).flag = x.flag := rfl
@[simp] theorem withIdle_log (x : Wm) (d : Idl) : (x.withIdle d).log = x.log := rfl
@[simp] theorem withIdle_spinning (x : Wm) (d : Idl) : (x.withIdle d).spinning = x.spinning := rfl
@[simp] theorem withIdle_notes (x : Wm) (d : Idl) : (x.withIdle d).notes = x.notes := rfl
@[simp] theorem withIdle_tab (x : Wm) (d : Idl) : (x.withIdle d).tab = x.tab := rfl
@[simp] theorem withSrc_P (x : Wm) (s : Src) : (x.withSrc s).P = x.P := rfl
@[simp] theorem withSrc_M (x : Wm) (s : Src) : (x.withSrc s).M = x.M := rfl
@[simp] theorem withSrc_G (x : Wm) (s : Src) : (x.withSrc s).G = x.G := rfl
@[simp] theorem withSrc_mem (x : Wm) (s : Src) : (x.withSrc s).mem = x.mem := rfl
@[simp] theorem withSrc_rings (x : Wm) (s : Src) : (x.withSrc s).rings = x.rings := rfl
@[simp] theorem withSrc_turns (x : Wm) (s : Src) : (x.withSrc s).turns = x.turns := rfl
@[simp] theorem withSrc_queue (x : Wm) (s : Src) : (x.withSrc s).queue = x.queue := rfl
@[simp] theorem withSrc_src (x : Wm) (s : Src) : (x.withSrc s).src = s := rfl
@[simp] theorem withSrc_idle (x : Wm) (s : Src) : (x.withSrc s).idle = x.idle := rfl
@[simp] theorem withSrc_all (x : Wm) (s : Src) : (x.withSrc s).all = x.all := rfl
@[simp] theorem withSrc_flag (x : Wm) (s : Src) : (x.withSrc s).flag = x.flag := rfl
@[simp] theorem withSrc_log (x : Wm) (s : Src) : (x.withSrc s).log = x.log := rfl
@[simp] theorem withSrc_spinning (x : Wm) (s : Src) : (x.withSrc s).spinning = x.spinning := rfl
@[simp] theorem withSrc_notes (x : Wm) (s : Src) : (x.withSrc s).notes = x.notes := rfl
@[simp] theorem withSrc_tab (x : Wm) (s : Src) : (x.withSrc s).tab = x.tab := rfl
@[simp] theorem withLog_P (x : Wm) (e : List Ev) : (x.withLog e).P = x.P := rfl
@[simp] theorem withLog_M (x : Wm) (e : List Ev) : (x.withLog e).M = x.M := rfl
@[simp] theorem withLog_G (x : Wm) (e : List Ev) : (x.withLog e).G = x.G := rfl
@[simp] theorem withLog_mem (x : Wm) (e : List Ev) : (x.withLog e).mem = x.mem := rfl
@[simp] theorem withLog_rings (x : Wm) (e : List Ev) : (x.withLog e).rings = x.rings := rfl
@[simp] theorem withLog_turns (x : Wm) (e : List Ev) : (x.withLog e).turns = x.turns := rfl
@[simp] theorem withLog_queue (x : Wm) (e : List Ev) : (x.withLog e).queue = x.queue := rfl
@[simp] theorem withLog_src (x : Wm) (e : List Ev) : (x.withLog e).src = x.src := rfl
@[simp] theorem withLog_idle (x : Wm) (e : List Ev) : (x.withLog e).idle = x.idle := rfl
@[simp] theorem withLog_all (x : Wm) (e : List Ev) : (x.withLog e).all = x.all := rfl
@[simp] theorem withLog_flag (x : Wm) (e : List Ev) : (x.withLog e).flag = x.flag := rfl
@[simp] theorem withLog_log (x : Wm) (e : List Ev) : (x.withLog e).log = e := rfl
@[simp] theorem withLog_spinning (x : Wm) (e : List Ev) : (x.withLog e).spinning = x.spinning := rfl
@[simp] theorem withLog_notes (x : Wm) (e : List Ev) : (x.withLog e).notes = x.notes := rfl
@[simp] theorem withLog_tab (x : Wm) (e : List Ev) : (x.withLog e).tab = x.tab := rfl
theorem setF_setF {α : Type} (f : Nat → α) (i : Nat) (a b : α) : setF (setF f i a) i b = setF f i b := by
  funext j; unfold setF; split <;> rfl
theorem upd_upd (x : Wm) (i : Nat) (f g : Mc → Mc) : (x.upd i f).upd i g = x.upd i fun m => g (f m) := by
  simp only [upd, setF_self, setF_setF]
theorem upd_congr {x : Wm} {i : Nat} {f g : Mc → Mc} (h : f (x.all i) = g (x.all i)) : x.upd i f = x.upd i g := by simp only [upd, h]
end Wm

theorem MachRow.row {H : Heap} {b n : Nat} {f : Nat → List Value} (h : MachRow H b n f) (hf : ∀ j, j < n → (f j).length = 18) {i k m : Nat} (hi : i < n) (hk : k + m ≤ 18) :
    rowOk H b (i * 18 + k) m = true ∧ rowD H b (i * 18 + k) m = (((f i).drop k).take m).toArray := by
  obtain ⟨c, e, h1, h2, h3⟩ := h.blk
  have hin : i * 18 + k + m ≤ c.size := by omega
  have hl := hf i hi
  refine ⟨by rw [blk_rowOk h1]; exact Nat.ble_eq_true_of_le hin, ?_⟩
  rw [blk_row h1]
  apply Array.ext
  · simp; omega
  · intro j hj1 hj2
    simp at hj1 hj2
    have := h3 i hi (k + j) (by omega)
    simp [Array.getD_eq_getD_getElem?, show i * 18 + (k + j) < c.size by omega, show k + j < (f i).length by omega] at this
    simp [← this, Nat.add_assoc]

section
variable {gb : Nat} {K : Fix} {O : Side} {H H' : Heap} {x x' : Wm} {L L' : Lay} {Q : List Value → Heap → Prop} {R : Option Nat → List Value → Heap → Prop}

theorem WFits.same (h : WFits x) (hd : (x'.P, x'.M, x'.G, x'.mem.W.length) = (x.P, x.M, x.G, x.mem.W.length)) : WFits x' := by
  simp only [Prod.mk.injEq] at hd
  obtain ⟨h1, h2, h3, h4⟩ := hd
  obtain ⟨k1, k2, k3, k4⟩ := h
  refine ⟨by rw [h1]; exact k1, by rw [h1, h2]; exact k2, by rw [h3]; exact k3, ?_⟩
  rw [h4, k4]; unfold Wm.tab Wm.notes Wm.spinning; rw [h1, h2, h3]
theorem WIn.go (h : WIn gb K O H x L) (u : WAt gb H' L' x' ∧ Upd H H' L L') (hf : L'.fix = L.fix) (hd : (x'.P, x'.M, x'.G, x'.mem.W.length) = (x.P, x.M, x.G, x.mem.W.length) := by rfl) : WIn gb K O H' x' L' :=
  ⟨hf.trans h.fix, h.fit.same hd, u.1, fun k o hk => by
    obtain ⟨h1, h2⟩ := h.side k o hk
    have := u.2.old k (blk_lt h1) h2
    exact ⟨this.1.trans h1, this.2⟩⟩
theorem WIn.goW (h : WIn gb K O H x L) (u : WAt gb H' L' x' ∧ Upd H H' L L') (hf : L'.fix = L.fix) (hd : (x'.P, x'.M, x'.G, x'.mem.W.length) = (x.P, x.M, x.G, x.mem.W.length) := by rfl) : W gb K O H' x' := ⟨_, h.go u hf hd⟩
theorem W.as (h : W gb K O H x) (e : x = x') : W gb K O H x' := e ▸ h
theorem W.fit (h : W gb K O H x) : WFits x := by obtain ⟨L, h⟩ := h; exact h.fit
theorem W.fits (h : W gb K O H x) : 1 ≤ x.P ∧ x.P ≤ 64 ∧ x.P ≤ x.M ∧ x.M ≤ 128 ∧ 1 ≤ x.G ∧ x.G ≤ 4096 ∧ x.mem.W.length = x.tab + x.G ∧ x.tab = x.notes + x.M ∧ x.notes = x.spinning + 1 ∧ x.spinning = 2 * (x.P + 2) := by
  have h := h.fit
  exact ⟨h.P.1, h.P.2, h.M.1, h.M.2, h.G.1, h.G.2, h.W, rfl, rfl, rfl⟩

theorem W.weak (h : W gb K O H x) {O' : Side} (hO : ∀ k o, O' k = some o → O k = some o) : W gb K O' H x := by
  obtain ⟨L, h⟩ := h
  exact ⟨L, h.fix, h.fit, h.at_, fun k o hk => h.side k o (hO k o hk)⟩
/-- A block that was put beside is forgotten. -/
theorem W.forget {b : Nat} {o : Obj} (h : W gb K (O.put b o) H x) (hn : O b = none) : W gb K O H x :=
  h.weak fun k o' hk => by
    by_cases e : k = b
    · subst e; rw [hn] at hk; cases hk
    · rw [Side.put_ne e]; exact hk
theorem W.get (h : W gb K O H x) {k : Nat} {o : Obj} (hk : O k = some o) : H[k]? = some o := by obtain ⟨L, h⟩ := h; exact (h.side k o hk).1
theorem W.glob (h : W gb K O H x) : Glob gb H := by obtain ⟨L, h⟩ := h; exact h.at_.glob
theorem W.lt (h : W gb K O H x) {k : Nat} {o : Obj} (hk : O k = some o) : k < H.size := blk_lt (h.get hk)
theorem W.unused (h : W gb K O H x) {k : Nat} (hk : H.size ≤ k) : O k = none := by
  cases e : O k with
  | none => rfl
  | some o => exact absurd (h.lt e) (by omega)

/-- Only what is new was made. -/
theorem W.scratch (h : W gb K O H x) (m : Mod H H' []) : W gb K O H' x := by
  obtain ⟨L, h⟩ := h
  exact h.goW (h.at_.scratch m fun _ => .none) rfl
/-- A block made anew, beside the world. -/
theorem W.push (h : W gb K O H x) (o : Obj) : W gb K (O.put H.size o) (H.push o) x ∧ O H.size = Option.none ∧ gb ≤ H.size := by
  have hn := h.unused (Nat.le_refl _)
  have hg := h.glob.le
  obtain ⟨L, h⟩ := h
  have g := h.go (h.at_.scratch (Mod.push o []) fun _ => .none) rfl
  refine ⟨⟨_, g.fix, g.fit, g.at_, fun k o' hk => ?_⟩, hn, hg⟩
  by_cases e : k = H.size
  · subst e
    simp at hk; subst hk
    exact ⟨get_push_new _ _, Lay.paint_new (f := fun _ => .none) (Nat.le_refl _)⟩
  · rw [Side.put_ne e] at hk
    exact g.side k o' hk
/-- A cell beside the world is written. -/
theorem W.setO (h : W gb K O H x) {b o : Nat} {c : Array Value} {e : TypeId} (v : Value) (hb : O b = some (.cells c e (0, 0))) (hg : gb ≤ b) :
    W gb K (O.put b (.cells (c.setIfInBounds o v) e (0, 0))) (setH H b o v) x := by
  obtain ⟨L, h⟩ := h
  obtain ⟨h1, h2⟩ := h.side b _ hb
  refine ⟨L.paint H.size fun _ => .none, h.fix, h.fit, ⟨fun r => ?_, fun k hk => ?_, h.at_.glob.set hg⟩, fun k o' hk => ?_⟩
  · by_cases hr : r = .none
    · subst hr; trivial
    · exact (h.at_.comp r).frame (Mod.setH b o v (S := [b]) (by simp)) (by intro k hk _; simp at hk; rw [hk, h2]; exact fun e => hr e.symm) _
  · rw [Lay.paint_old (Nat.lt_of_lt_of_le hk h.at_.glob.le)]; exact h.at_.own k hk
  · by_cases e' : k = b
    · subst e'
      simp at hk; subst hk
      exact ⟨get_setH_self h1, by rw [Lay.paint_old (blk_lt h1)]; exact h2⟩
    · rw [Side.put_ne e'] at hk
      obtain ⟨h3, h4⟩ := h.side k o' hk
      exact ⟨by rw [get_setH_ne (Ne.symm e')]; exact h3, by rw [Lay.paint_old (blk_lt h3)]; exact h4⟩

theorem blk_set_same {H : Heap} {b o : Nat} {v : Value} {c : Array Value} {e : TypeId} {f : Nat × Nat} (h : H[b]? = some (.cells c e f)) : (setH H b o v)[b]? = some (.cells (c.setIfInBounds o v) e f) := get_setH_self h

/-- A machine's field is written. -/
theorem W.setM (h : W gb K O H x) {i k : Nat} (hi : i < x.M) (hk : k < 18) {v : Value} {f : Mc → Mc}
    (hm : ∀ rv, (f (x.all i)).cs rv = ((x.all i).cs rv).set k v) (hr : (f (x.all i)).rest = (x.all i).rest) : W gb K O (setH H K.ab (i * 18 + k) v) (x.upd i f) := by
  obtain ⟨L, h⟩ := h
  have e : L.ab = K.ab := congrArg Fix.ab h.fix
  rw [← e]
  exact h.goW (h.at_.setM hi hk (hm _) hr) rfl
theorem W.secOk (h : W gb K O H x) {i : Nat} (hi : i < x.M) : rowOk H K.ab (i * 18 + 13) 5 = true ∧ blkFree H K.ab = true := by
  obtain ⟨L, h⟩ := h
  obtain ⟨h1, -⟩ := h.at_.comp .all
  have e : L.ab = K.ab := congrArg Fix.ab h.fix
  rw [e] at h1
  obtain ⟨c, t, k1, k2⟩ := h1.blk
  exact ⟨(h1.row (fun _ _ => rfl) hi (by decide)).1, blk_blkFree k1⟩
theorem W.stM (h : W gb K O H x) {i k o : Nat} (hi : i < x.M) (hk : k < 18) (ho : o = i * 18 + k) {t : TypeId} (ht : oneT prog t = true) {v : Value} (hv : oneV v = true) {f : Mc → Mc}
    (hm : ∀ rv, (f (x.all i)).cs rv = ((x.all i).cs rv).set k v) (hr : (f (x.all i)).rest = (x.all i).rest) {kk : Value → T} (hK : ∀ H', W gb K O H' (x.upd i f) → wpH prog Q (kk undef) R H') :
    wpH prog Q (.op [] (.store t (.pointer (some ⟨K.ab, o, Option.none⟩)) v) kk) R H := by
  subst ho
  obtain ⟨L, h⟩ := h
  obtain ⟨h1, -⟩ := h.at_.comp .all
  have e : L.ab = K.ab := congrArg Fix.ab h.fix
  rw [← e]
  rw [wpH_store_eq ht hv (h1.ok hi hk) (h1.free _)]
  exact hK _ (h.goW (h.at_.setM hi hk (hm _) hr) rfl)
theorem W.fm (h : W gb K O H x) {i : Nat} (hi : i < x.M) :
    cellOk H K.ab (i * 18) = true ∧ cellD H K.ab (i * 18) = i64 (x.all i).place ∧
    cellOk H K.ab (i * 18 + 1) = true ∧ cellD H K.ab (i * 18 + 1) = i64 (x.all i).p ∧
    cellOk H K.ab (i * 18 + 2) = true ∧ cellD H K.ab (i * 18 + 2) = i64 (x.all i).g ∧
    cellOk H K.ab (i * 18 + 3) = true ∧ cellD H K.ab (i * 18 + 3) = i64 (x.all i).next ∧
    cellOk H K.ab (i * 18 + 4) = true ∧ cellD H K.ab (i * 18 + 4) = i64 (x.all i).got ∧
    cellOk H K.ab (i * 18 + 5) = true ∧ cellD H K.ab (i * 18 + 5) = i64 (x.all i).target ∧
    cellOk H K.ab (i * 18 + 6) = true ∧ cellD H K.ab (i * 18 + 6) = i64 (x.all i).i ∧
    cellOk H K.ab (i * 18 + 7) = true ∧ cellD H K.ab (i * 18 + 7) = .bool (x.all i).spin ∧
    cellOk H K.ab (i * 18 + 8) = true ∧ cellD H K.ab (i * 18 + 8) = .bool (x.all i).inn ∧
    cellOk H K.ab (i * 18 + 10) = true ∧ cellD H K.ab (i * 18 + 10) = i64 (x.all i).back ∧
    cellOk H K.ab (i * 18 + 11) = true ∧ cellD H K.ab (i * 18 + 11) = i64 (x.all i).after ∧
    cellOk H K.ab (i * 18 + 12) = true ∧ cellD H K.ab (i * 18 + 12) = i64 (x.all i).arg ∧
    cellOk H K.ab (i * 18 + 13) = true ∧ cellD H K.ab (i * 18 + 13) = i64 (x.all i).ln ∧
    cellOk H K.ab (i * 18 + 14) = true ∧ cellD H K.ab (i * 18 + 14) = i64 (x.all i).ls ∧
    cellOk H K.ab (i * 18 + 15) = true ∧ cellD H K.ab (i * 18 + 15) = i64 (x.all i).stage ∧
    cellOk H K.ab (i * 18 + 16) = true ∧ cellD H K.ab (i * 18 + 16) = u64 (x.all i).ticket ∧
    cellOk H K.ab (i * 18 + 17) = true ∧ cellD H K.ab (i * 18 + 17) = i64 (x.all i).times ∧
    cellOk H K.ab (i * 18 + 9) = true ∧
    rowOk H K.ab (i * 18 + 13) 2 = true ∧ rowD H K.ab (i * 18 + 13) 2 = #[i64 (x.all i).ln, i64 (x.all i).ls] ∧
    rowOk H K.ab (i * 18 + 13) 5 = true ∧ rowD H K.ab (i * 18 + 13) 5 = #[i64 (x.all i).ln, i64 (x.all i).ls, i64 (x.all i).stage, u64 (x.all i).ticket, i64 (x.all i).times] := by
  obtain ⟨L, h⟩ := h
  obtain ⟨h1, -⟩ := h.at_.comp .all
  have e : L.ab = K.ab := congrArg Fix.ab h.fix
  rw [e] at h1
  have ok := fun (k : Nat) (hk : k < 18) => h1.ok hi hk
  have cell := fun (k : Nat) (hk : k < 18) => h1.cell hi hk
  have row := fun (k n : Nat) (hk : k + n ≤ 18) => h1.row (fun _ _ => rfl) hi hk
  exact ⟨ok 0 (by decide), cell 0 (by decide), ok 1 (by decide), cell 1 (by decide), ok 2 (by decide), cell 2 (by decide), ok 3 (by decide), cell 3 (by decide), ok 4 (by decide), cell 4 (by decide), ok 5 (by decide), cell 5 (by decide), ok 6 (by decide), cell 6 (by decide), ok 7 (by decide), cell 7 (by decide), ok 8 (by decide), cell 8 (by decide), ok 10 (by decide), cell 10 (by decide), ok 11 (by decide), cell 11 (by decide), ok 12 (by decide), cell 12 (by decide), ok 13 (by decide), cell 13 (by decide), ok 14 (by decide), cell 14 (by decide), ok 15 (by decide), cell 15 (by decide), ok 16 (by decide), cell 16 (by decide), ok 17 (by decide), cell 17 (by decide), ok 9 (by decide), (row 13 2 (by decide)).1, (row 13 2 (by decide)).2, (row 13 5 (by decide)).1, (row 13 5 (by decide)).2⟩
theorem W.f (h : W gb K O H x) :
    cellOk H K.b 0 = true ∧ cellD H K.b 0 = i64 x.P ∧
    cellOk H K.b 1 = true ∧ cellD H K.b 1 = i64 x.M ∧
    cellOk H K.b 2 = true ∧ cellD H K.b 2 = i64 x.G ∧
    cellOk H K.b 3 = true ∧ cellD H K.b 3 = ptr K.mb ∧
    cellOk H K.b 4 = true ∧ cellD H K.b 4 = i64 x.spinning ∧
    cellOk H K.b 5 = true ∧ cellD H K.b 5 = i64 x.notes ∧
    cellOk H K.b 6 = true ∧ cellD H K.b 6 = i64 x.tab ∧
    cellOk H K.b 7 = true ∧ cellD H K.b 7 = i64 x.G ∧
    cellOk H K.b 8 = true ∧ cellD H K.b 8 = .slice (some ⟨K.rb, 0, Option.none⟩) x.P K.rc ∧
    cellOk H K.b 9 = true ∧ cellD H K.b 9 = .slice (some ⟨K.tb, 0, Option.none⟩) x.P x.P ∧
    cellOk H K.b 10 = true ∧ cellD H K.b 10 = ptr K.qb ∧
    cellOk H K.b 11 = true ∧ cellD H K.b 11 = ptr K.sb ∧
    cellOk H K.b 12 = true ∧ cellD H K.b 12 = ptr K.ib ∧
    cellOk H K.b 13 = true ∧ cellD H K.b 13 = .slice (some ⟨K.ab, 0, Option.none⟩) x.M K.ac ∧
    cellOk H K.b 14 = true ∧ cellD H K.b 14 = .slice (some ⟨K.fb, 0, Option.none⟩) x.M x.M ∧
    rowOk H K.b 0 3 = true ∧ rowD H K.b 0 3 = #[i64 x.P, i64 x.M, i64 x.G] ∧
    rowOk H K.b 6 2 = true ∧ rowD H K.b 6 2 = #[i64 x.tab, i64 x.G] := by
  obtain ⟨L, h⟩ := h
  obtain ⟨h1, -⟩ := h.at_.comp .world
  obtain ⟨rfl, -, h, -⟩ := h
  have ok := fun (k : Nat) (hk : Nat.blt k 16 = true) => (blk_ok h1).trans hk
  have cell := fun (k : Nat) => blk_cell (o := k) h1
  have rok := fun (k n : Nat) (hk : Nat.ble (k + n) 16 = true) => (blk_rowOk h1).trans hk
  have row := fun (k n : Nat) => blk_row (o := k) (n := n) h1
  exact ⟨ok 0 rfl, cell 0, ok 1 rfl, cell 1, ok 2 rfl, cell 2, ok 3 rfl, cell 3, ok 4 rfl, cell 4, ok 5 rfl, cell 5, ok 6 rfl, cell 6, ok 7 rfl, cell 7, ok 8 rfl, cell 8, ok 9 rfl, cell 9, ok 10 rfl, cell 10, ok 11 rfl, cell 11, ok 12 rfl, cell 12, ok 13 rfl, cell 13, ok 14 rfl, cell 14, rok 0 3 rfl, row 0 3, rok 6 2 rfl, row 6 2⟩
theorem W.st0 (h : W gb K O H x) {i : Nat} (hi : i < x.M) {t : TypeId} (ht : oneT prog t = true) {v : Int} {kk : Value → T} (hk : ∀ H', W gb K O H' (x.upd i fun m => { m with place := v }) → wpH prog Q (kk undef) R H') :
    wpH prog Q (.op [] (.store t (.pointer (some ⟨K.ab, i * 18, Option.none⟩)) (i64 v)) kk) R H := h.stM hi (k := 0) (by decide) rfl ht rfl (f := fun m => { m with place := v }) (fun _ => rfl) rfl hk
theorem W.st1 (h : W gb K O H x) {i : Nat} (hi : i < x.M) {t : TypeId} (ht : oneT prog t = true) {v : Int} {kk : Value → T} (hk : ∀ H', W gb K O H' (x.upd i fun m => { m with p := v }) → wpH prog Q (kk undef) R H') :
    wpH prog Q (.op [] (.store t (.pointer (some ⟨K.ab, i * 18 + 1, Option.none⟩)) (i64 v)) kk) R H := h.stM hi (k := 1) (by decide) rfl ht rfl (f := fun m => { m with p := v }) (fun _ => rfl) rfl hk
theorem W.st2 (h : W gb K O H x) {i : Nat} (hi : i < x.M) {t : TypeId} (ht : oneT prog t = true) {v : Int} {kk : Value → T} (hk : ∀ H', W gb K O H' (x.upd i fun m => { m with g := v }) → wpH prog Q (kk undef) R H') :
    wpH prog Q (.op [] (.store t (.pointer (some ⟨K.ab, i * 18 + 2, Option.none⟩)) (i64 v)) kk) R H := h.stM hi (k := 2) (by decide) rfl ht rfl (f := fun m => { m with g := v }) (fun _ => rfl) rfl hk
theorem W.st3 (h : W gb K O H x) {i : Nat} (hi : i < x.M) {t : TypeId} (ht : oneT prog t = true) {v : Int} {kk : Value → T} (hk : ∀ H', W gb K O H' (x.upd i fun m => { m with next := v }) → wpH prog Q (kk undef) R H') :
    wpH prog Q (.op [] (.store t (.pointer (some ⟨K.ab, i * 18 + 3, Option.none⟩)) (i64 v)) kk) R H := h.stM hi (k := 3) (by decide) rfl ht rfl (f := fun m => { m with next := v }) (fun _ => rfl) rfl hk
theorem W.st4 (h : W gb K O H x) {i : Nat} (hi : i < x.M) {t : TypeId} (ht : oneT prog t = true) {v : Int} {kk : Value → T} (hk : ∀ H', W gb K O H' (x.upd i fun m => { m with got := v }) → wpH prog Q (kk undef) R H') :
    wpH prog Q (.op [] (.store t (.pointer (some ⟨K.ab, i * 18 + 4, Option.none⟩)) (i64 v)) kk) R H := h.stM hi (k := 4) (by decide) rfl ht rfl (f := fun m => { m with got := v }) (fun _ => rfl) rfl hk
theorem W.st5 (h : W gb K O H x) {i : Nat} (hi : i < x.M) {t : TypeId} (ht : oneT prog t = true) {v : Int} {kk : Value → T} (hk : ∀ H', W gb K O H' (x.upd i fun m => { m with target := v }) → wpH prog Q (kk undef) R H') :
    wpH prog Q (.op [] (.store t (.pointer (some ⟨K.ab, i * 18 + 5, Option.none⟩)) (i64 v)) kk) R H := h.stM hi (k := 5) (by decide) rfl ht rfl (f := fun m => { m with target := v }) (fun _ => rfl) rfl hk
theorem W.st6 (h : W gb K O H x) {i : Nat} (hi : i < x.M) {t : TypeId} (ht : oneT prog t = true) {v : Int} {kk : Value → T} (hk : ∀ H', W gb K O H' (x.upd i fun m => { m with i := v }) → wpH prog Q (kk undef) R H') :
    wpH prog Q (.op [] (.store t (.pointer (some ⟨K.ab, i * 18 + 6, Option.none⟩)) (i64 v)) kk) R H := h.stM hi (k := 6) (by decide) rfl ht rfl (f := fun m => { m with i := v }) (fun _ => rfl) rfl hk
theorem W.st7 (h : W gb K O H x) {i : Nat} (hi : i < x.M) {t : TypeId} (ht : oneT prog t = true) {v : Bool} {kk : Value → T} (hk : ∀ H', W gb K O H' (x.upd i fun m => { m with spin := v }) → wpH prog Q (kk undef) R H') :
    wpH prog Q (.op [] (.store t (.pointer (some ⟨K.ab, i * 18 + 7, Option.none⟩)) (.bool v)) kk) R H := h.stM hi (k := 7) (by decide) rfl ht rfl (f := fun m => { m with spin := v }) (fun _ => rfl) rfl hk
theorem W.st8 (h : W gb K O H x) {i : Nat} (hi : i < x.M) {t : TypeId} (ht : oneT prog t = true) {v : Bool} {kk : Value → T} (hk : ∀ H', W gb K O H' (x.upd i fun m => { m with inn := v }) → wpH prog Q (kk undef) R H') :
    wpH prog Q (.op [] (.store t (.pointer (some ⟨K.ab, i * 18 + 8, Option.none⟩)) (.bool v)) kk) R H := h.stM hi (k := 8) (by decide) rfl ht rfl (f := fun m => { m with inn := v }) (fun _ => rfl) rfl hk
theorem W.st10 (h : W gb K O H x) {i : Nat} (hi : i < x.M) {t : TypeId} (ht : oneT prog t = true) {v : Int} {kk : Value → T} (hk : ∀ H', W gb K O H' (x.upd i fun m => { m with back := v }) → wpH prog Q (kk undef) R H') :
    wpH prog Q (.op [] (.store t (.pointer (some ⟨K.ab, i * 18 + 10, Option.none⟩)) (i64 v)) kk) R H := h.stM hi (k := 10) (by decide) rfl ht rfl (f := fun m => { m with back := v }) (fun _ => rfl) rfl hk
theorem W.st11 (h : W gb K O H x) {i : Nat} (hi : i < x.M) {t : TypeId} (ht : oneT prog t = true) {v : Int} {kk : Value → T} (hk : ∀ H', W gb K O H' (x.upd i fun m => { m with after := v }) → wpH prog Q (kk undef) R H') :
    wpH prog Q (.op [] (.store t (.pointer (some ⟨K.ab, i * 18 + 11, Option.none⟩)) (i64 v)) kk) R H := h.stM hi (k := 11) (by decide) rfl ht rfl (f := fun m => { m with after := v }) (fun _ => rfl) rfl hk
theorem W.st12 (h : W gb K O H x) {i : Nat} (hi : i < x.M) {t : TypeId} (ht : oneT prog t = true) {v : Int} {kk : Value → T} (hk : ∀ H', W gb K O H' (x.upd i fun m => { m with arg := v }) → wpH prog Q (kk undef) R H') :
    wpH prog Q (.op [] (.store t (.pointer (some ⟨K.ab, i * 18 + 12, Option.none⟩)) (i64 v)) kk) R H := h.stM hi (k := 12) (by decide) rfl ht rfl (f := fun m => { m with arg := v }) (fun _ => rfl) rfl hk
theorem W.st13 (h : W gb K O H x) {i : Nat} (hi : i < x.M) {t : TypeId} (ht : oneT prog t = true) {v : Int} {kk : Value → T} (hk : ∀ H', W gb K O H' (x.upd i fun m => { m with ln := v }) → wpH prog Q (kk undef) R H') :
    wpH prog Q (.op [] (.store t (.pointer (some ⟨K.ab, i * 18 + 13, Option.none⟩)) (i64 v)) kk) R H := h.stM hi (k := 13) (by decide) rfl ht rfl (f := fun m => { m with ln := v }) (fun _ => rfl) rfl hk
theorem W.st14 (h : W gb K O H x) {i : Nat} (hi : i < x.M) {t : TypeId} (ht : oneT prog t = true) {v : Int} {kk : Value → T} (hk : ∀ H', W gb K O H' (x.upd i fun m => { m with ls := v }) → wpH prog Q (kk undef) R H') :
    wpH prog Q (.op [] (.store t (.pointer (some ⟨K.ab, i * 18 + 14, Option.none⟩)) (i64 v)) kk) R H := h.stM hi (k := 14) (by decide) rfl ht rfl (f := fun m => { m with ls := v }) (fun _ => rfl) rfl hk
theorem W.st15 (h : W gb K O H x) {i : Nat} (hi : i < x.M) {t : TypeId} (ht : oneT prog t = true) {v : Int} {kk : Value → T} (hk : ∀ H', W gb K O H' (x.upd i fun m => { m with stage := v }) → wpH prog Q (kk undef) R H') :
    wpH prog Q (.op [] (.store t (.pointer (some ⟨K.ab, i * 18 + 15, Option.none⟩)) (i64 v)) kk) R H := h.stM hi (k := 15) (by decide) rfl ht rfl (f := fun m => { m with stage := v }) (fun _ => rfl) rfl hk
theorem W.st16 (h : W gb K O H x) {i : Nat} (hi : i < x.M) {t : TypeId} (ht : oneT prog t = true) {v : Int} {kk : Value → T} (hk : ∀ H', W gb K O H' (x.upd i fun m => { m with ticket := v }) → wpH prog Q (kk undef) R H') :
    wpH prog Q (.op [] (.store t (.pointer (some ⟨K.ab, i * 18 + 16, Option.none⟩)) (u64 v)) kk) R H := h.stM hi (k := 16) (by decide) rfl ht rfl (f := fun m => { m with ticket := v }) (fun _ => rfl) rfl hk
theorem W.st17 (h : W gb K O H x) {i : Nat} (hi : i < x.M) {t : TypeId} (ht : oneT prog t = true) {v : Int} {kk : Value → T} (hk : ∀ H', W gb K O H' (x.upd i fun m => { m with times := v }) → wpH prog Q (kk undef) R H') :
    wpH prog Q (.op [] (.store t (.pointer (some ⟨K.ab, i * 18 + 17, Option.none⟩)) (i64 v)) kk) R H := h.stM hi (k := 17) (by decide) rfl ht rfl (f := fun m => { m with times := v }) (fun _ => rfl) rfl hk
/-- A flag is written. -/
theorem W.stF (h : W gb K O H x) {i : Nat} (hi : i < x.M) {t : TypeId} (ht : oneT prog t = true) {v : Bool} {kk : Value → T} (hK : ∀ H', W gb K O H' (x.flagged i v) → wpH prog Q (kk undef) R H') :
    wpH prog Q (.op [] (.store t (.pointer (some ⟨K.fb, i, Option.none⟩)) (.bool v)) kk) R H := by
  obtain ⟨L, h⟩ := h
  obtain ⟨h1, -⟩ := h.at_.comp .flag
  have e : L.fb = K.fb := congrArg Fix.fb h.fix
  rw [← e]
  rw [wpH_store_eq ht (by simp) (h1.ok hi) (h1.free _)]
  exact hK _ (h.goW (h.at_.setFlag hi v) rfl)
/-- How many turns a processor had. -/
theorem W.stT (h : W gb K O H x) {i : Nat} (hi : i < x.P) {t : TypeId} (ht : oneT prog t = true) {v : Int} {kk : Value → T} (hK : ∀ H', W gb K O H' (x.turned i v) → wpH prog Q (kk undef) R H') :
    wpH prog Q (.op [] (.store t (.pointer (some ⟨K.tb, i, Option.none⟩)) (i64 v)) kk) R H := by
  obtain ⟨L, h⟩ := h
  obtain ⟨h1, -⟩ := h.at_.comp .turns
  have e : L.tb = K.tb := congrArg Fix.tb h.fix
  rw [← e]
  rw [wpH_store_eq ht (by simp) (h1.ok hi) (h1.free _)]
  exact hK _ (h.goW (h.at_.setTurns hi v) rfl)
theorem W.ff (h : W gb K O H x) {i : Nat} (hi : i < x.M) : cellOk H K.fb i = true ∧ cellD H K.fb i = .bool (x.flag i) := by
  obtain ⟨L, h⟩ := h
  obtain ⟨h1, -⟩ := h.at_.comp .flag
  rw [show L.fb = K.fb from congrArg Fix.fb h.fix] at h1
  exact ⟨h1.ok hi, h1.cell hi⟩
theorem W.ft (h : W gb K O H x) {i : Nat} (hi : i < x.P) : cellOk H K.tb i = true ∧ cellD H K.tb i = i64 (x.turns i) := by
  obtain ⟨L, h⟩ := h
  obtain ⟨h1, -⟩ := h.at_.comp .turns
  rw [show L.tb = K.tb from congrArg Fix.tb h.fix] at h1
  exact ⟨h1.ok hi, h1.cell hi⟩
theorem W.fr (h : W gb K O H x) {i : Nat} (hi : i < x.P) : cellOk H K.rb i = true ∧ cellD H K.rb i = ptr (K.rp i) := by
  obtain ⟨L, h⟩ := h
  obtain ⟨h1, -⟩ := h.at_.comp .rings
  rw [show L.rb = K.rb from congrArg Fix.rb h.fix] at h1
  exact ⟨h1.ok hi, (h1.cell hi).trans (by rw [show L.rp = K.rp from congrArg Fix.rp h.fix])⟩

/-! ### The parts, opened and shut -/
/-- The block of a row, beside the world. -/
def Side.row (O : Side) (H : Heap) (v : Value) : Side := fun k => if blkOf v = some k then H[k]? else O k
theorem Side.row_nil (O : Side) (H : Heap) {v : Value} (hv : blkOf v = Option.none) : O.row H v = O := by
  funext k; simp [Side.row, hv]
theorem W.unrow {v : Value} {H0 : Heap} (h : W gb K (O.row H0 v) H x) (hn : ∀ c, blkOf v = some c → O c = Option.none) : W gb K O H x :=
  h.weak fun k o hk => by
    unfold Side.row
    by_cases e : blkOf v = some k
    · rw [hn k e] at hk; cases hk
    · rw [if_neg e]; exact hk
theorem WIn.goRow (h : WIn gb K O H x L) (u : WAt gb H' L' x' ∧ Upd H H' L L') (hf : L'.fix = L.fix) {v : Value} (hv : ∀ c, blkOf v = some c → L'.col c = .none) (hd : (x'.P, x'.M, x'.G, x'.mem.W.length) = (x.P, x.M, x.G, x.mem.W.length) := by rfl) : W gb K (O.row H' v) H' x' := by
  refine ⟨L', ?_⟩
  have g := h.go u hf hd
  refine ⟨g.fix, g.fit, g.at_, fun k o hk => ?_⟩
  unfold Side.row at hk
  split at hk
  · rename_i e; exact ⟨hk, hv k e⟩
  · exact g.side k o hk

/-- Blocks made anew may be put beside. -/
structure Shut (gb : Nat) (K : Fix) (O : Side) (H H' : Heap) (x' : Wm) : Prop where
  w : W gb K O H' x'
  row : ∀ v, (∀ c, blkOf v = some c → H.size ≤ c) → W gb K (O.row H' v) H' x'

theorem W.mod (h : W gb K O H x) (m : Mod H H' []) : Shut gb K O H H' x := by
  obtain ⟨L, h⟩ := h
  exact ⟨h.goW (h.at_.scratch m fun _ => .none) rfl, fun v hv => h.goRow (h.at_.scratch m fun _ => .none) rfl fun c hc => Lay.paint_new (f := fun _ => .none) (hv c hc)⟩
theorem W.mem (h : W gb K O H x) : MemAt H K.mb K.wb x.mem ∧ ∀ H' m', MemTo H H' K.mb K.wb m' → m'.W.length = x.mem.W.length → W gb K O H' (x.withMem m') := by
  obtain ⟨L, h⟩ := h
  obtain ⟨h1, -⟩ := h.at_.comp .mem
  obtain ⟨rfl, hf, h, hs⟩ := h
  exact ⟨h1, fun H' m' t hl => WIn.goW ⟨rfl, hf, h, hs⟩ (h.mem t fun _ => .none) rfl (by simp [hl])⟩
theorem W.ring (h : W gb K O H x) {p : Nat} (hp : p < x.P) : RingAt H (K.rp p) (x.rings p) ∧ ∀ H' r', RingTo H H' (K.rp p) r' → Shut gb K O H H' (x.withRing p r') := by
  obtain ⟨L, h⟩ := h
  obtain ⟨h1, -⟩ := h.at_.comp (.ring p) hp
  obtain ⟨rfl, hf, h, hs⟩ := h
  exact ⟨h1, fun H' r' t => ⟨WIn.goW ⟨rfl, hf, h, hs⟩ (h.ring hp t fun _ => .none) rfl, fun v hv => WIn.goRow ⟨rfl, hf, h, hs⟩ (h.ring hp t fun _ => .none) rfl fun c hc => Lay.paint_new (f := fun _ => .none) (hv c hc)⟩⟩
theorem W.queue (h : W gb K O H x) : ∃ v, QueueAt H K.qb v x.queue x.P ∧ ∀ H' v' l', QueueTo H H' K.qb v v' l' x.P → W gb K O H' (x.withQueue l') ∧
    ∀ u, (∀ c, blkOf u = some c → H.size ≤ c ∧ blkOf v' ≠ some c) → W gb K (O.row H' u) H' (x.withQueue l') := by
  obtain ⟨L, h⟩ := h
  obtain ⟨h1, -⟩ := h.at_.comp .queue
  obtain ⟨rfl, hf, h, hs⟩ := h
  refine ⟨L.qv, h1, fun H' v' l' t => ⟨WIn.goW ⟨rfl, hf, h, hs⟩ (h.queue t (fun _ => .queue) fun _ _ _ => rfl) rfl, fun u hu => ?_⟩⟩
  refine WIn.goRow ⟨rfl, hf, h, hs⟩ (h.queue t (fun c => if blkOf v' = some c then .queue else .none) fun c hc _ => by simp [hc]) rfl fun c hc => ?_
  obtain ⟨h2, h3⟩ := hu c hc
  exact (Lay.paint_new (f := fun c => if blkOf v' = some c then Role.queue else .none) h2).trans (if_neg h3)
theorem W.idle (h : W gb K O H x) : ∃ pv mv, IdleAt H K.ib K.im K.iw pv mv x.idle ∧ ∀ H' pv' mv' l', IdleTo H H' K.ib K.im K.iw pv mv pv' mv' l' → W gb K O H' (x.withIdle l') := by
  obtain ⟨L, h⟩ := h
  obtain ⟨h1, -⟩ := h.at_.comp .idle
  obtain ⟨rfl, hf, h, hs⟩ := h
  exact ⟨L.pv, L.mv, h1, fun H' pv' mv' l' t => WIn.goW ⟨rfl, hf, h, hs⟩ (h.idle t) rfl⟩
/-- A machine's row, as it is read. -/
theorem W.rest (h : W gb K O H x) {i : Nat} (hi : i < x.M) : ∃ rv, cellD H K.ab (i * 18 + 9) = rv ∧ Owns H 1 3 rv ((x.all i).rest.map i64) ∧
    (rowOk H K.ab (i * 18) 18 = true ∧ rowD H K.ab (i * 18) 18 = ((x.all i).cs rv).toArray) ∧ (∀ p, p < x.P → blkOf rv ≠ some (K.rp p)) ∧ blkOf rv ≠ some K.qb := by
  obtain ⟨L, h⟩ := h
  obtain ⟨h1, -⟩ := h.at_.comp .all
  obtain ⟨h2, h4⟩ := h.at_.comp (.rest i) hi
  obtain ⟨h5, h6, h7⟩ := h.at_.comp .queue
  rw [show L.ab = K.ab from congrArg Fix.ab h.fix] at h1
  have := h1.row (fun _ _ => rfl) (k := 0) (m := 18) hi (by decide)
  refine ⟨L.rv i, h1.cell hi (by decide), h2, this, fun p hp e => ?_, fun e => ?_⟩
  · obtain ⟨h8, h9⟩ := h.at_.comp (.ring p) hp
    rw [show K.rp = L.rp from (congrArg Fix.rp h.fix).symm] at e
    have := h4 _ e
    rw [h9] at this; cases this
  · rw [show K.qb = L.qb from (congrArg Fix.qb h.fix).symm] at e
    have := h4 _ e
    rw [h6] at this; cases this

/-- Other colours where there was none. -/
theorem Comp.recolor {L : Lay} {x : Wm} {H : Heap} {r : Role} (h : Comp L x H r) {c : Nat → Role} (hc : ∀ k, L.col k ≠ .none → c k = L.col k) : Comp { L with col := c } x H r := by
  have go : ∀ {k r}, L.col k = r → r ≠ .none → c k = r := fun {k r} h1 h2 => (hc k (by rw [h1]; exact h2)).trans h1
  cases r with
  | none => trivial
  | world => exact ⟨h.1, go h.2 (by simp)⟩
  | mem => exact ⟨h.1, go h.2.1 (by simp), go h.2.2 (by simp)⟩
  | rings => exact ⟨h.1, go h.2 (by simp)⟩
  | ring p => exact fun hp => ⟨(h hp).1, go (h hp).2 (by simp)⟩
  | turns => exact ⟨h.1, go h.2 (by simp)⟩
  | queue => exact ⟨h.1, go h.2.1 (by simp), fun k hk => go (h.2.2 k hk) (by simp)⟩
  | source => exact ⟨h.1, fun k hk => go (h.2 k hk) (by simp)⟩
  | idle => exact ⟨h.1, fun k hk => go (h.2 k hk) (by simp)⟩
  | all => exact ⟨h.1, go h.2 (by simp)⟩
  | rest i => exact fun hi => ⟨(h hi).1, fun k hk => go ((h hi).2 k hk) (by simp)⟩
  | flag => exact ⟨h.1, go h.2 (by simp)⟩
  | log => exact ⟨h.1, fun k hk => go (h.2 k hk) (by simp)⟩

/-- A row made anew becomes a machine's. -/
theorem W.adopt {O1 : Side} (h : W gb K O1 H x) {i : Nat} (hi : i < x.M) {v : Value} {l : List Int} (ho : Owns H 1 3 v (l.map i64)) (hc : ∀ c, blkOf v = some c → (∃ o, O1 c = some o) ∧ O c = Option.none ∧ gb ≤ c)
    (hO : ∀ k o, O k = some o → O1 k = some o) : cellOk H K.ab (i * 18 + 9) = true ∧ cellFree H K.ab (i * 18 + 9) = true ∧ W gb K O (setH H K.ab (i * 18 + 9) v) (x.upd i fun m => { m with rest := l }) := by
  obtain ⟨L, h⟩ := h
  have hk : ∀ k, L.col k ≠ .none → (if blkOf v = some k then Role.rest i else L.col k) = L.col k := fun k hk => by
    split
    · rename_i e
      obtain ⟨⟨o, ho⟩, _⟩ := hc k e
      exact absurd (h.side k o ho).2 hk
    · rfl
  have g : WIn gb K O H x { L with col := fun k => if blkOf v = some k then Role.rest i else L.col k } := by
    refine ⟨h.fix, h.fit, ⟨fun r => (h.at_.comp r).recolor hk, fun k hk => ?_, h.at_.glob⟩, fun k o hk => ?_⟩
    · show (if blkOf v = some k then Role.rest i else L.col k) = .none
      rw [if_neg fun e => by have := (hc k e).2.2; omega]; exact h.at_.own k hk
    · obtain ⟨h1, h2⟩ := h.side k o (hO k o hk)
      refine ⟨h1, ?_⟩
      show (if blkOf v = some k then Role.rest i else L.col k) = .none
      rw [if_neg fun e => by rw [(hc k e).2.1] at hk; cases hk]; exact h2
  obtain ⟨h1, -⟩ := h.at_.comp .all
  have e : L.ab = K.ab := congrArg Fix.ab h.fix
  rw [← e]
  exact ⟨h1.ok hi (by decide), h1.free _, g.goW (g.at_.setRest hi ho fun c hcv => if_pos hcv) rfl⟩
theorem W.log (h : W gb K O H x) : ∃ lv, LogAt H K.b 15 lv x.log ∧ ∀ H' v' e, LogAt H' K.b 15 v' (x.log ++ [e]) → H'[K.b]? = (setH H K.b 15 v')[K.b]? → Mod H H' (K.b :: (blkOf lv).toList) →
    (blkOf v' = blkOf lv ∨ ∃ nb, blkOf v' = some nb ∧ H.size ≤ nb) → W gb K O H' (x.withLog (x.log ++ [e])) := by
  obtain ⟨L, h⟩ := h
  obtain ⟨rfl, hf, h, hs⟩ := h
  exact ⟨L.lv, h.logAt, fun H' v' e h1 h2 h3 h4 => WIn.goW ⟨rfl, hf, h, hs⟩ (h.setLog h1 h2 h3 h4) rfl⟩
end

/-! ### Places in rows -/
theorem ix_all {n c b i : Nat} (hi : i < n) : dry prog (N.indexA 189 (.slice (some ⟨b, 0, none⟩) n c) (.int .i64 (i : Int))).sem = some (.value (.pointer (some ⟨b, i * 18, none⟩))) := by
  rw [dry_indexA sl_189 (by omega) (by omega)]; simp
theorem ix_flag {n c b i : Nat} (hi : i < n) : dry prog (N.indexA 115 (.slice (some ⟨b, 0, none⟩) n c) (.int .i64 (i : Int))).sem = some (.value (.pointer (some ⟨b, i, none⟩))) := by
  rw [dry_indexA sl_115 (by omega) (by omega)]; simp
theorem ix_rings {n c b : Nat} {p : Int} (h0 : 0 ≤ p) (h1 : p < n) : dry prog (N.indexA 187 (.slice (some ⟨b, 0, none⟩) n c) (.int .i64 p)).sem = some (.value (.pointer (some ⟨b, p.toNat, none⟩))) := by
  rw [dry_indexA sl_187 h0 h1]; simp
theorem ix_turns {n c b : Nat} {p : Int} (h0 : 0 ≤ p) (h1 : p < n) : dry prog (N.indexA 33 (.slice (some ⟨b, 0, none⟩) n c) (.int .i64 p)).sem = some (.value (.pointer (some ⟨b, p.toNat, none⟩))) := by
  rw [dry_indexA sl_33 h0 h1]; simp
section
variable {Q : List Value → Heap → Prop} {R : Option Nat → List Value → Heap → Prop} {H : Heap} {b o : Nat} {k : Value → T}
@[simp] theorem la_24 (h : rowOk H b o 3 = true) : wpH prog Q (.look (.load 24 (.pointer (some ⟨b, o, none⟩))) k) R H = wpH prog Q (k (.agg (rowD H b o 3))) R H := wpH_loadAgg_eq agg_24 h
@[simp] theorem la_186 (h : rowOk H b o 2 = true) : wpH prog Q (.look (.load 186 (.pointer (some ⟨b, o, none⟩))) k) R H = wpH prog Q (k (.agg (rowD H b o 2))) R H := wpH_loadAgg_eq agg_186 h
@[simp] theorem la_94 (h : rowOk H b o 2 = true) : wpH prog Q (.look (.load 94 (.pointer (some ⟨b, o, none⟩))) k) R H = wpH prog Q (k (.agg (rowD H b o 2))) R H := wpH_loadAgg_eq agg_94 h
@[simp] theorem la_96 (h : rowOk H b o 5 = true) : wpH prog Q (.look (.load 96 (.pointer (some ⟨b, o, none⟩))) k) R H = wpH prog Q (k (.agg (rowD H b o 5))) R H := wpH_loadAgg_eq agg_96 h
@[simp] theorem la_98 (h : rowOk H b o 18 = true) : wpH prog Q (.look (.load 98 (.pointer (some ⟨b, o, none⟩))) k) R H = wpH prog Q (k (.agg (rowD H b o 18))) R H := wpH_loadAgg_eq agg_98 h
@[simp] theorem la_43 (h : rowOk H b o 5 = true) : wpH prog Q (.look (.load 43 (.pointer (some ⟨b, o, none⟩))) k) R H = wpH prog Q (k (.agg (rowD H b o 5))) R H := wpH_loadAgg_eq agg_43 h
@[simp] theorem la_40 (h : rowOk H b o 5 = true) : wpH prog Q (.look (.load 40 (.pointer (some ⟨b, o, none⟩))) k) R H = wpH prog Q (k (.agg (rowD H b o 5))) R H := wpH_loadAgg_eq agg_40 h
end
end Go.Tr
