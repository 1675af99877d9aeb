/- What each operation of a tree does, told by the heap alone: reading, storing, making, calling, numbers. General: it speaks of whatever program. Conditions as each theorem states them (a cell that is there, bounds that hold). -/
import Derived.Test.YtgjafaheglnheaaGreatDoorHsTree3
import Derived.Laws.Rows
import Derived.Laws.Cells
import Derived.Laws.Sem
import Derived.Laws.World
namespace Go.Tr

theorem add_none (b o n : Nat) : Addr.add ⟨b, o, none⟩ n = ⟨b, o + n, none⟩ := by
  unfold Addr.add
  split
  · rename_i h0; subst h0; rfl
  · rfl

/-! ### The heap as a function -/

def cellD (H : Heap) (b o : Nat) : Value := match H[b]? with
  | some (.cells c _ _) => c.getD o undef
  | _ => undef
def cellOk (H : Heap) (b o : Nat) : Bool := match H[b]? with
  | some (.cells c _ _) => Nat.blt o c.size
  | _ => false
def cellFree (H : Heap) (b o : Nat) : Bool := match H[b]? with
  | some (.cells _ _ (lo, hi)) => !(decide (lo ≤ o) && decide (o < hi))
  | _ => true
def setH (H : Heap) (b o : Nat) (v : Value) : Heap := H.modify b fun
  | .cells c e f => .cells (c.setIfInBounds o v) e f
  | x => x
def setRowH (H : Heap) (b o : Nat) : List Value → Heap
  | [] => H
  | v :: vs => setRowH (setH H b o v) b (o + 1) vs
def rowOk (H : Heap) (b o n : Nat) : Bool := match H[b]? with
  | some (.cells c _ _) => Nat.ble (o + n) c.size
  | _ => false
def rowD (H : Heap) (b o n : Nat) : Array Value := match H[b]? with
  | some (.cells c _ _) => c.extract o (o + n)
  | _ => #[]

theorem cell_of_H {w : World} {b o : Nat} (h : cellOk w.heap b o = true) : w.cell? ⟨b, o, none⟩ = some (cellD w.heap b o) := by
  unfold cellOk at h
  unfold World.cell? cellD
  split at h
  · rename_i c e f hb
    have hlt : o < c.size := Nat.le_of_ble_eq_true h
    simp [hb, hlt]
  · cases h

theorem frozen_of_H {w : World} {b o : Nat} (h : cellFree w.heap b o = true) : w.frozen? ⟨b, o, none⟩ = false := by
  unfold cellFree at h
  unfold World.frozen?
  split at h
  · rename_i lo hi hb
    simp only [hb]
    simp at h ⊢
    omega
  · rename_i hb
    split
    · rename_i c e lo hi hb'
      exact absurd hb' (hb c e lo hi)
    · rfl

theorem heap_setCell (w : World) (b o : Nat) (v : Value) : (w.setCell ⟨b, o, none⟩ v).heap = setH w.heap b o v := by
  unfold World.setCell setH
  dsimp only
  congr 1

@[simp] theorem size_setH (H : Heap) (b o : Nat) (v : Value) : (setH H b o v).size = H.size := by simp [setH]
@[simp] theorem size_setRowH (vs : List Value) : ∀ (H : Heap) (b o : Nat), (setRowH H b o vs).size = H.size := by
  induction vs with
  | nil => intro H b o; rfl
  | cons v vs ih => intro H b o; simp [setRowH, ih]

theorem get_setH_self {H : Heap} {b o : Nat} {v : Value} {c : Array Value} {e : TypeId} {f : Nat × Nat} (h : H[b]? = some (.cells c e f)) :
    (setH H b o v)[b]? = some (.cells (c.setIfInBounds o v) e f) := by
  simp [setH, Array.getElem?_modify, h]
theorem get_setH_ne {H : Heap} {b b' o : Nat} {v : Value} (h : b ≠ b') : (setH H b o v)[b']? = H[b']? := by
  simp [setH, Array.getElem?_modify, h]

@[simp] theorem cellOk_setH (H : Heap) (b o : Nat) (v : Value) (b' o' : Nat) : cellOk (setH H b o v) b' o' = cellOk H b' o' := by
  unfold cellOk
  by_cases e : b = b'
  · subst e
    cases h : H[b]? with
    | none => simp [setH, Array.getElem?_modify, h]
    | some x => cases x <;> simp [setH, Array.getElem?_modify, h]
  · rw [get_setH_ne e]
@[simp] theorem cellFree_setH (H : Heap) (b o : Nat) (v : Value) (b' o' : Nat) : cellFree (setH H b o v) b' o' = cellFree H b' o' := by
  unfold cellFree
  by_cases e : b = b'
  · subst e
    cases h : H[b]? with
    | none => simp [setH, Array.getElem?_modify, h]
    | some x => cases x <;> simp [setH, Array.getElem?_modify, h]
  · rw [get_setH_ne e]
@[simp] theorem rowOk_setH (H : Heap) (b o : Nat) (v : Value) (b' o' n : Nat) : rowOk (setH H b o v) b' o' n = rowOk H b' o' n := by
  unfold rowOk
  by_cases e : b = b'
  · subst e
    cases h : H[b]? with
    | none => simp [setH, Array.getElem?_modify, h]
    | some x => cases x <;> simp [setH, Array.getElem?_modify, h]
  · rw [get_setH_ne e]
theorem cellD_setH {H : Heap} {b o : Nat} {v : Value} (b' o' : Nat) (h : cellOk H b o = true) : cellD (setH H b o v) b' o' = if b = b' ∧ o = o' then v else cellD H b' o' := by
  unfold cellD
  by_cases e : b = b'
  · subst e
    unfold cellOk at h
    split at h
    · rename_i c e f hb
      have hlt : o < c.size := Nat.le_of_ble_eq_true h
      rw [get_setH_self hb]
      by_cases eo : o = o'
      · subst eo; simp [hlt]
      · simp [hb, eo, Array.getElem?_setIfInBounds_ne eo]
    · cases h
  · rw [get_setH_ne e]
    simp [e]
@[simp] theorem cellD_setH_self {H : Heap} {b o : Nat} {v : Value} (h : cellOk H b o = true) : cellD (setH H b o v) b o = v := by rw [cellD_setH _ _ h]; simp
@[simp] theorem cellD_setH_off {H : Heap} {b o o' : Nat} {v : Value} (h : cellOk H b o = true) (hne : o ≠ o') : cellD (setH H b o v) b o' = cellD H b o' := by rw [cellD_setH _ _ h]; simp [hne]
theorem cellD_setH_ne {H : Heap} {b b' o o' : Nat} {v : Value} (hne : b ≠ b') : cellD (setH H b o v) b' o' = cellD H b' o' := by
  unfold cellD; rw [get_setH_ne hne]

/-- A block of plain cells. -/
abbrev Blk (H : Heap) (b : Nat) (c : Array Value) (e : TypeId) : Prop := H[b]? = some (.cells c e (0, 0))

theorem blk_lt {H : Heap} {b : Nat} {x : Obj} (h : H[b]? = some x) : b < H.size := by
  rcases Nat.lt_or_ge b H.size with h' | h'
  · exact h'
  · simp [Array.getElem?_eq_none h'] at h

theorem blk_cell {H : Heap} {b o : Nat} {c : Array Value} {e : TypeId} {f : Nat × Nat} (h : H[b]? = some (.cells c e f)) : cellD H b o = c.getD o undef := by simp [cellD, h]
theorem blk_ok {H : Heap} {b o : Nat} {c : Array Value} {e : TypeId} {f : Nat × Nat} (h : H[b]? = some (.cells c e f)) : cellOk H b o = Nat.blt o c.size := by simp [cellOk, h]
theorem blk_free {H : Heap} {b o : Nat} {c : Array Value} {e : TypeId} (h : H[b]? = some (.cells c e (0, 0))) : cellFree H b o = true := by simp [cellFree, h]
theorem blk_row {H : Heap} {b o n : Nat} {c : Array Value} {e : TypeId} {f : Nat × Nat} (h : H[b]? = some (.cells c e f)) : rowD H b o n = c.extract o (o + n) := by simp [rowD, h]
theorem blk_rowOk {H : Heap} {b o n : Nat} {c : Array Value} {e : TypeId} {f : Nat × Nat} (h : H[b]? = some (.cells c e f)) : rowOk H b o n = Nat.ble (o + n) c.size := by simp [rowOk, h]

/-! ### Types -/

def oneT (P : Program) (t : TypeId) : Bool := (match P.underlying t with
  | some (.struct _) | some (.array _ _) => false
  | some _ => true
  | none => false) && (match P.info? t with
  | some i => Nat.beq i.size 1
  | none => false)
def aggT (P : Program) (t : TypeId) (n : Nat) : Bool := (match P.underlying t with
  | some (.struct _) | some (.array _ _) => true
  | _ => false) && (match P.info? t with
  | some i => Nat.beq i.size n
  | none => false)

theorem oneT_spec {P : Program} {t : TypeId} (h : oneT P t = true) : (∀ w, (isAgg t).run P w = .ok false w) ∧ (∀ w, (sizeOf t).run P w = .ok 1 w) ∧ P.cellsOf t = 1 := by
  unfold oneT at h
  rw [Bool.and_eq_true] at h
  obtain ⟨h1, h2⟩ := h
  refine ⟨fun w => ?_, fun w => ?_, ?_⟩
  · unfold isAgg underlying
    cases hu : P.underlying t with
    | none => simp [hu] at h1
    | some d => cases d <;> simp [hu] at h1 <;> simp [hu]
  · unfold sizeOf typeInfo
    cases hi : P.info? t with
    | none => simp [hi] at h2
    | some i => simp only [hi] at h2; simp [hi, Nat.eq_of_beq_eq_true h2]
  · unfold Program.cellsOf
    cases hi : P.info? t with
    | none => simp [hi] at h2
    | some i => simp only [hi] at h2; simp [Nat.eq_of_beq_eq_true h2]

theorem aggT_spec {P : Program} {t : TypeId} {n : Nat} (h : aggT P t n = true) : (∀ w, (isAgg t).run P w = .ok true w) ∧ (∀ w, (sizeOf t).run P w = .ok n w) ∧ P.cellsOf t = n := by
  unfold aggT at h
  rw [Bool.and_eq_true] at h
  obtain ⟨h1, h2⟩ := h
  refine ⟨fun w => ?_, fun w => ?_, ?_⟩
  · unfold isAgg underlying
    cases hu : P.underlying t with
    | none => simp [hu] at h1
    | some d => cases d <;> simp [hu] at h1 <;> simp [hu]
  · unfold sizeOf typeInfo
    cases hi : P.info? t with
    | none => simp [hi] at h2
    | some i => simp only [hi] at h2; simp [hi, Nat.eq_of_beq_eq_true h2]
  · unfold Program.cellsOf
    cases hi : P.info? t with
    | none => simp [hi] at h2
    | some i => simp only [hi] at h2; simp [Nat.eq_of_beq_eq_true h2]

/-! ### Reading -/

theorem run_load_one {P : Program} {t : TypeId} {b o : Nat} {w : World} (ht : oneT P t = true) (h : cellOk w.heap b o = true) :
    (N.load t (.pointer (some ⟨b, o, none⟩))).sem.run P w = .ok (.value (cellD w.heap b o)) w := by
  have h1 := (oneT_spec ht).1 w
  have h2 := cell_of_H h
  simp [N.sem, Instr.loadAt, Instr.sureAddr, loadVar, h1, run_load, h2]

theorem run_load_agg {P : Program} {t : TypeId} {n b o : Nat} {w : World} (ht : aggT P t n = true) (h : rowOk w.heap b o n = true) :
    (N.load t (.pointer (some ⟨b, o, none⟩))).sem.run P w = .ok (.value (.agg (rowD w.heap b o n))) w := by
  have h1 := (aggT_spec ht).1 w
  have h2 := (aggT_spec ht).2.1 w
  have h3 : (loadCells ⟨b, o, none⟩ n).run P w = .ok (rowD w.heap b o n) w := by
    unfold rowOk at h
    split at h
    · rename_i c e f hb
      have hle : o + n ≤ c.size := Nat.le_of_ble_eq_true h
      have := run_loadCells_list (P := P) (w := w) ⟨b, o, none⟩ (c.extract o (o + n)).toList (by
        intro j v hj
        have hj' : (c.extract o (o + n))[j]? = some v := by rw [← Array.getElem?_toList]; exact hj
        rw [Array.getElem?_extract] at hj'
        split at hj'
        · rename_i hlt
          have ha : (Addr.add ⟨b, o, none⟩ j) = ⟨b, o + j, none⟩ := by
            unfold Addr.add
            split
            · rename_i h0; subst h0; rfl
            · rfl
          rw [ha]
          unfold World.cell?
          simp only [hb]
          simpa using hj'
        · cases hj')
      have hlen : (c.extract o (o + n)).toList.length = n := by simp; omega
      rw [hlen] at this
      rw [this, rowD, hb]
    · cases h
  simp [N.sem, Instr.loadAt, Instr.sureAddr, loadVar, h1, h2, h3]

theorem wpH_load {P : Program} {Q : List Value → Heap → Prop} {R : Option Nat → List Value → Heap → Prop} {H : Heap} {t : TypeId} {b o : Nat} {k : Value → T} (ht : oneT P t = true)
    (h : cellOk H b o = true) (hk : wpH P Q (k (cellD H b o)) R H) : wpH P Q (.look (.load t (.pointer (some ⟨b, o, none⟩))) k) R H :=
  ⟨_, fun w hw => by subst hw; exact run_load_one ht h, hk⟩

theorem wpH_loadAgg {P : Program} {Q : List Value → Heap → Prop} {R : Option Nat → List Value → Heap → Prop} {H : Heap} {t : TypeId} {n b o : Nat} {k : Value → T} (ht : aggT P t n = true)
    (h : rowOk H b o n = true) (hk : wpH P Q (k (.agg (rowD H b o n))) R H) : wpH P Q (.look (.load t (.pointer (some ⟨b, o, none⟩))) k) R H :=
  ⟨_, fun w hw => by subst hw; exact run_load_agg ht h, hk⟩

theorem resv_sem {P : Program} {t : TypeId} {a : Addr} {w : World} : (N.resv t (.pointer (some a))).sem.run P w = (N.load t (.pointer (some a))).sem.run P w := by
  simp [N.sem, Instr.loadAt, Instr.sureAddr, asAddr]

theorem wpH_resv {P : Program} {Q : List Value → Heap → Prop} {R : Option Nat → List Value → Heap → Prop} {H : Heap} {t : TypeId} {a : Addr} {k : Value → T}
    (hk : wpH P Q (.look (.load t (.pointer (some a))) k) R H) : wpH P Q (.look (.resv t (.pointer (some a))) k) R H := by
  obtain ⟨v, hv, hk⟩ := hk
  exact ⟨v, fun w hw => by rw [resv_sem]; exact hv w hw, hk⟩

/-! ### Storing -/

def oneV : Value → Bool
  | .agg _ | .tuple _ => false
  | _ => true
@[simp] theorem oneV_int (k : IntKind) (n : Int) : oneV (.int k n) = true := by simp only [oneV]
@[simp] theorem oneV_bool (b : Bool) : oneV (.bool b) = true := by simp only [oneV]
@[simp] theorem oneV_pointer (a : Option Addr) : oneV (.pointer a) = true := by simp only [oneV]
@[simp] theorem oneV_slice (a : Option Addr) (n m : Nat) : oneV (.slice a n m) = true := by simp only [oneV]
@[simp] theorem oneV_map (a : Option Nat) : oneV (.map a) = true := by simp only [oneV]
@[simp] theorem oneV_string (a : ByteArray) : oneV (.string a) = true := by simp only [oneV]

theorem oneV_cells {v : Value} (h : oneV v = true) : v.cells = #[v] := by cases v <;> simp [oneV] at h <;> rfl

theorem run_storeCell {P : Program} {b o : Nat} {v : Value} {w : World} (hv : oneV v = true) (h : cellOk w.heap b o = true) (hf : cellFree w.heap b o = true) :
    (store ⟨b, o, none⟩ v).run P w = .ok () (w.setCell ⟨b, o, none⟩ v) := by
  have h2 := cell_of_H h
  have h3 := frozen_of_H hf
  unfold Go.store
  cases v <;> simp [oneV] at hv <;> simp [Sem.run, h2, h3]

theorem keeps_setCell (w : World) (a : Addr) (v : Value) : Keeps w (w.setCell a v) := ⟨rfl, rfl, rfl⟩

theorem run_store_one {P : Program} {t : TypeId} {b o : Nat} {v : Value} {w : World} (ht : oneT P t = true) (hv : oneV v = true) (h : cellOk w.heap b o = true) (hf : cellFree w.heap b o = true) :
    (N.store t (.pointer (some ⟨b, o, none⟩)) v).sem.run P w = .ok .skip (w.setCell ⟨b, o, none⟩ v) := by
  have h1 := (oneT_spec ht).2.1 w
  have h2 := run_storeCell (P := P) hv h hf
  simp [N.sem, Instr.storeAt, Instr.sureAddr, storeVar, h1, oneV_cells hv, storeCells, Addr.add, h2]

theorem wpH_storeW {P : Program} {Q : List Value → Heap → Prop} {R : Option Nat → List Value → Heap → Prop} {H : Heap} {ws : List (N × Value)} {t : TypeId} {b o : Nat} {v : Value} {k : Value → T} (ht : oneT P t = true)
    (hv : oneV v = true) (h : cellOk H b o = true) (hf : cellFree H b o = true) (hw : Held P ws (setH H b o v)) (hk : wpH P Q (k undef) R (setH H b o v)) :
    wpH P Q (.op ws (.store t (.pointer (some ⟨b, o, none⟩)) v) k) R H := by
  intro w hw'
  subst hw'
  rw [run_store_one ht hv h hf]
  exact ⟨keeps_setCell _ _ _, by rw [heap_setCell]; exact hw, by rw [heap_setCell]; exact hk⟩

theorem held_nil (P : Program) (H : Heap) : Held P [] H := by intro x hx; cases hx

theorem wpH_store {P : Program} {Q : List Value → Heap → Prop} {R : Option Nat → List Value → Heap → Prop} {H : Heap} {t : TypeId} {b o : Nat} {v : Value} {k : Value → T} (ht : oneT P t = true)
    (hv : oneV v = true) (h : cellOk H b o = true) (hf : cellFree H b o = true) (hk : wpH P Q (k undef) R (setH H b o v)) :
    wpH P Q (.op [] (.store t (.pointer (some ⟨b, o, none⟩)) v) k) R H := wpH_storeW ht hv h hf (held_nil _ _) hk

/-! ### Calling -/

def hasBody (P : Program) (f : FuncId) : Bool := match P.funcs[f]? with
  | some fn => fn.body.isSome && !(fn.name == "runtime.NumGoroutine")
  | none => false

theorem run_callv {P : Program} {f : FuncId} {args caps : Array Value} {first : Array Value} {w : World} (h : hasBody P f = true) :
    (N.callv (.func (.func f) first caps) args).sem.run P w = .ok (.enter f (first ++ args ++ caps)) w := by
  unfold hasBody at h
  split at h
  · rename_i fn hf
    rw [Bool.and_eq_true] at h
    have h2 : ¬ fn.name = "runtime.NumGoroutine" := by simpa using h.2
    have h3 : ¬ fn.body = none := by cases hb : fn.body <;> simp [hb] at h ⊢
    simp [N.sem, Deferred.ofValue, invoke, callFunc, hf, h2, h3]
  · cases h

theorem wpH_call {P : Program} {Q : List Value → Heap → Prop} {R : Option Nat → List Value → Heap → Prop} {H : Heap} {f : FuncId} {args : Array Value} {k : Value → T} (hb : hasBody P f = true)
    (h : CallsH P f args H fun v H' => wpH P Q (k v) R H') : wpH P Q (.op [] (.callv (.func (.func f) #[] #[]) args) k) R H := by
  intro w hw
  rw [run_callv hb]
  subst hw
  refine ⟨Keeps.refl _, ?_⟩
  simp only [Array.empty_append, Array.append_empty]
  exact h.mono fun v H' q => ⟨held_nil _ _, q⟩

theorem wpH_callW {P : Program} {Q : List Value → Heap → Prop} {R : Option Nat → List Value → Heap → Prop} {H : Heap} {ws : List (N × Value)} {f : FuncId} {args : Array Value} {k : Value → T} (hb : hasBody P f = true)
    (h : CallsH P f args H fun v H' => Held P ws H' ∧ wpH P Q (k v) R H') : wpH P Q (.op ws (.callv (.func (.func f) #[] #[]) args) k) R H := by
  intro w hw
  rw [run_callv hb]
  subst hw
  refine ⟨Keeps.refl _, ?_⟩
  simp only [Array.empty_append, Array.append_empty]
  exact h

theorem wpH_callF {P : Program} {Q : List Value → Heap → Prop} {R : Option Nat → List Value → Heap → Prop} {H : Heap} {f : FuncId} {args first caps : Array Value} {k : Value → T} (hb : hasBody P f = true)
    (h : CallsH P f (first ++ args ++ caps) H fun v H' => wpH P Q (k v) R H') : wpH P Q (.op [] (.callv (.func (.func f) first caps) args) k) R H := by
  intro w hw
  rw [run_callv hb]
  subst hw
  exact ⟨Keeps.refl _, h.mono fun v H' q => ⟨held_nil _ _, q⟩⟩

theorem held_cons_load {P : Program} {ws : List (N × Value)} {H : Heap} {t : TypeId} {b o : Nat} {v : Value} (ht : oneT P t = true) (h : cellOk H b o = true) (hv : cellD H b o = v) (hw : Held P ws H) :
    Held P ((.load t (.pointer (some ⟨b, o, none⟩)), v) :: ws) H := by
  intro x hx w hw'
  rcases List.mem_cons.1 hx with rfl | hx
  · subst hw'; subst hv; exact run_load_one ht h
  · exact hw x hx w hw'

theorem held_cons_loadAgg {P : Program} {ws : List (N × Value)} {H : Heap} {t : TypeId} {n b o : Nat} {v : Value} (ht : aggT P t n = true) (h : rowOk H b o n = true) (hv : .agg (rowD H b o n) = v) (hw : Held P ws H) :
    Held P ((.load t (.pointer (some ⟨b, o, none⟩)), v) :: ws) H := by
  intro x hx w hw'
  rcases List.mem_cons.1 hx with rfl | hx
  · subst hw'; subst hv; exact run_load_agg ht h
  · exact hw x hx w hw'

/-! ### The plain nodes -/

section
variable {P : Program} {Q : List Value → Heap → Prop} {R : Option Nat → List Value → Heap → Prop} {H : Heap}

theorem wpH_pure {n : N} {v : Value} {k : Value → T} (hv : dry P n.sem = some (.value v)) (h : wpH P Q (k v) R H) : wpH P Q (.pure n k) R H := ⟨v, hv, h⟩
@[simp] theorem wpH_ret (vs : List Value) : wpH P Q (.ret vs) R H = Q vs H := rfl
@[simp] theorem wpH_leaf (e : Option Nat) (vs : List Value) : wpH P Q (.leaf e vs) R H = R e vs H := rfl
@[simp] theorem wpH_join (t : T) (k : Option Nat → List Value → T) : wpH P Q (.join t k) R H = wpH P Q t (fun e vs H' => wpH P Q (k e vs) R H') H := rfl
@[simp] theorem wpH_both (a b : T) : wpH P Q (.both a b) R H = (wpH P Q a R H ∧ wpH P Q b R H) := rfl
@[simp] theorem wpH_top : wpH P Q .top R H = True := rfl
@[simp] theorem wpH_pure_eq (n : N) (k : Value → T) : wpH P Q (.pure n k) R H = ∃ v, dry P n.sem = some (.value v) ∧ wpH P Q (k v) R H := rfl
@[simp] theorem wpH_ite (b : Bool) (x y : T) : wpH P Q (.ite (.bool b) x y) R H = if b then wpH P Q x R H else wpH P Q y R H := by
  cases b <;> simp [wpH]
@[simp] theorem retVal_one (v : Value) : retVal [v] = v := rfl
@[simp] theorem retVal_two (v u : Value) : retVal [v, u] = .tuple #[v, u] := rfl
@[simp] theorem retVal_three (v u x : Value) : retVal [v, u, x] = .tuple #[v, u, x] := rfl
@[simp] theorem retVal_none : retVal [] = .tuple #[] := rfl
@[simp] theorem sl_zero (v : Value) (l : List Value) : sl (v :: l) 0 = v := rfl
@[simp] theorem sl_succ (v : Value) (l : List Value) (k : Nat) : sl (v :: l) (k + 1) = sl l k := rfl
@[simp] theorem onE_none (a : T) (b : Nat → T) : onE none a b = a := rfl
@[simp] theorem onE_some (i : Nat) (a : T) (b : Nat → T) : onE (some i) a b = b i := rfl

theorem wpH_loop {s : List Value} {body : List Value → T} {k : Nat → List Value → T} (I : List Value → Heap → Prop) (m : List Value → Heap → Nat) (h0 : I s H)
    (hr : ∀ s H, I s H → wpH P Q (body s) (fun e vs H' => match e with
        | none => I vs H' ∧ m vs H' < m s H
        | some id => wpH P Q (k id vs) R H') H) : wpH P Q (.loop s body k) R H := ⟨I, m, h0, hr⟩

/-- From what is shown to what is asked. -/
theorem wpH_mono {Q' : List Value → Heap → Prop} (hQ : ∀ vs H, Q vs H → Q' vs H) : ∀ {t : T} {R R' : Option Nat → List Value → Heap → Prop} {H : Heap}, (∀ e vs H, R e vs H → R' e vs H) → wpH P Q t R H → wpH P Q' t R' H := by
  intro t
  induction t with
  | ret vs => intro R R' H hR h; exact hQ _ _ h
  | leaf e vs => intro R R' H hR h; exact hR _ _ _ h
  | pure n k ih => intro R R' H hR h; obtain ⟨v, hv, h⟩ := h; exact ⟨v, hv, ih v hR h⟩
  | look n k ih => intro R R' H hR h; obtain ⟨v, hv, h⟩ := h; exact ⟨v, hv, ih v hR h⟩
  | op ws n k ih => intro R R' H hR h w hw; exact okNext_mono (fun v H' q => ⟨q.1, ih v hR q.2⟩) (h w hw)
  | ite c a b iha ihb => intro R R' H hR h; exact h.imp (fun q => ⟨q.1, iha hR q.2⟩) (fun q => ⟨q.1, ihb hR q.2⟩)
  | both a b iha ihb => intro R R' H hR h; exact ⟨iha hR h.1, ihb hR h.2⟩
  | top => intro R R' H hR h; trivial
  | loop s body k ihb ihk =>
    intro R R' H hR h
    obtain ⟨I, m, h0, hr⟩ := h
    refine ⟨I, m, h0, fun s H hI => ihb s (fun e vs H' q => ?_) (hr s H hI)⟩
    cases e with
    | none => exact q
    | some id => exact ihk id vs hR q
  | join t k iht ihk => intro R R' H hR h; exact iht (fun e vs H' q => ihk e vs hR q) h
  | bad => intro R R' H hR h; exact h

end

section
variable {P : Program} {Q : List Value → Heap → Prop} {R : Option Nat → List Value → Heap → Prop} {H : Heap}

theorem look_eq {n : N} {v : Value} {k : Value → T} (h : ∀ w : World, w.heap = H → n.sem.run P w = .ok (.value v) w) : wpH P Q (.look n k) R H = wpH P Q (k v) R H := by
  refine propext ⟨?_, fun hk => ⟨v, h, hk⟩⟩
  rintro ⟨u, hu, hk⟩
  have w : World := { (default : World) with heap := H }
  have h1 := h { (default : World) with heap := H } rfl
  rw [hu { (default : World) with heap := H } rfl] at h1
  simp at h1
  subst h1
  exact hk
@[simp] theorem wpH_load_eq {t : TypeId} {b o : Nat} {k : Value → T} (ht : oneT P t = true) (h : cellOk H b o = true) :
    wpH P Q (.look (.load t (.pointer (some ⟨b, o, none⟩))) k) R H = wpH P Q (k (cellD H b o)) R H :=
  look_eq fun w hw => by subst hw; exact run_load_one ht h
theorem wpH_loadAgg_eq {t : TypeId} {n b o : Nat} {k : Value → T} (ht : aggT P t n = true) (h : rowOk H b o n = true) :
    wpH P Q (.look (.load t (.pointer (some ⟨b, o, none⟩))) k) R H = wpH P Q (k (.agg (rowD H b o n))) R H :=
  look_eq fun w hw => by subst hw; exact run_load_agg ht h
@[simp] theorem wpH_resv_eq {t : TypeId} {a : Addr} {k : Value → T} : wpH P Q (.look (.resv t (.pointer (some a))) k) R H = wpH P Q (.look (.load t (.pointer (some a))) k) R H := by
  simp only [wpH, resv_sem]
theorem someWorld (H : Heap) : ∃ w : World, w.heap = H := ⟨{ (default : World) with heap := H }, rfl⟩
@[simp] theorem wpH_store_eq {t : TypeId} {b o : Nat} {v : Value} {k : Value → T} (ht : oneT P t = true) (hv : oneV v = true) (h : cellOk H b o = true) (hf : cellFree H b o = true) :
    wpH P Q (.op [] (.store t (.pointer (some ⟨b, o, none⟩)) v) k) R H = wpH P Q (k undef) R (setH H b o v) := by
  refine propext ⟨fun hk => ?_, wpH_store ht hv h hf⟩
  obtain ⟨w, rfl⟩ := someWorld H
  have := hk w rfl
  rw [run_store_one ht hv h hf] at this
  have := this.2.2
  rwa [heap_setCell] at this
@[simp] theorem wpH_call_eq {f : FuncId} {args : Array Value} {k : Value → T} (hb : hasBody P f = true) :
    wpH P Q (.op [] (.callv (.func (.func f) #[] #[]) args) k) R H = CallsH P f args H (fun v H' => wpH P Q (k v) R H') := by
  refine propext ⟨fun hk w hw => ?_, wpH_call hb⟩
  have := hk w hw
  rw [run_callv hb] at this
  subst hw
  simp only [okNext, Array.empty_append, Array.append_empty] at this
  exact (this.2 w rfl).mono fun e w' ⟨v, he, hkp, q⟩ => ⟨v, he, hkp, q.2⟩
end

/-- The zero of a type. -/
def zeroT (P : Program) (t : TypeId) : Option Value := (P.info? t).bind (·.zero)

section
variable {P : Program} {Q : List Value → Heap → Prop} {R : Option Nat → List Value → Heap → Prop} {H : Heap}

theorem keeps_push (w : World) (x : Obj) : Keeps w { w with heap := w.heap.push x } := ⟨rfl, rfl, rfl⟩

theorem op_value_eq {n : N} {v : Value} {H' : Heap} {k : Value → T} (h : ∀ w : World, w.heap = H → n.sem.run P w = .ok (.value v) { w with heap := H' }) :
    wpH P Q (.op [] n k) R H = wpH P Q (k v) R H' := by
  refine propext ⟨fun hk => ?_, fun hk w hw => ?_⟩
  · obtain ⟨w, hw⟩ := someWorld H
    have := hk w hw
    rw [h w hw] at this
    exact this.2.2
  · rw [h w hw]
    exact ⟨⟨rfl, rfl, rfl⟩, held_nil _ _, hk⟩

@[simp] theorem wpH_box {t : TypeId} {x : Value} {k : Value → T} : wpH P Q (.op [] (.box t x) k) R H = wpH P Q (k (.pointer (some ⟨H.size, 0, none⟩))) R (H.push (.cells x.cells t (0, 0))) :=
  op_value_eq fun w hw => by subst hw; simp [N.sem, Instr.box, newVar, newRow]
theorem wpH_alloc {t : TypeId} {z : Value} {k : Value → T} (hz : zeroT P t = some z) : wpH P Q (.op [] (.alloc t) k) R H = wpH P Q (k (.pointer (some ⟨H.size, 0, none⟩))) R (H.push (.cells z.cells t (0, 0))) :=
  op_value_eq fun w hw => by
    subst hw
    unfold zeroT at hz
    obtain ⟨i, hi, hz⟩ := Option.bind_eq_some_iff.1 hz
    simp [N.sem, Instr.alloc, newVar, newRow, zeroValue, typeInfo, hi, hz]

theorem run_storeCells {vs : List Value} : ∀ {b o j : Nat} {w : World}, (∀ v ∈ vs, oneV v = true) → (∀ i, j ≤ i → i < j + vs.length → cellOk w.heap b (o + i) = true ∧ cellFree w.heap b (o + i) = true) →
    ∃ w', (storeCells ⟨b, o, none⟩ vs j).run P w = .ok () w' ∧ Keeps w w' ∧ w'.heap = setRowH w.heap b (o + j) vs := by
  induction vs with
  | nil => intro b o j w _ _; exact ⟨w, by simp [storeCells], Keeps.refl _, rfl⟩
  | cons v vs ih =>
    intro b o j w hv h
    obtain ⟨h1, h2⟩ := h j (Nat.le_refl _) (by simp)
    have hr := run_storeCell (P := P) (hv v (by simp)) h1 h2
    obtain ⟨w', hw', hk, hh⟩ := ih (b := b) (o := o) (j := j + 1) (w := w.setCell ⟨b, o + j, none⟩ v) (fun u hu => hv u (List.mem_cons_of_mem _ hu)) fun i hi hi' => by
      rw [heap_setCell]
      obtain ⟨h3, h4⟩ := h i (by omega) (by simp; omega)
      exact ⟨by rw [cellOk_setH]; exact h3, by rw [cellFree_setH]; exact h4⟩
    refine ⟨w', ?_, (keeps_setCell _ _ _).trans hk, ?_⟩
    · unfold storeCells
      rw [add_none]
      simp only [Sem.run_bind, hr, Result.andThen_ok]
      exact hw'
    · rw [hh, heap_setCell]; rfl

theorem rowOk_spec {b o n : Nat} (h : rowOk H b o n = true) : ∀ i, i < n → cellOk H b (o + i) = true := fun i hi => by
  unfold rowOk at h
  unfold cellOk
  split at h
  · rename_i c e f hb
    have : o + n ≤ c.size := Nat.le_of_ble_eq_true h
    exact Nat.ble_eq_true_of_le (by omega)
  · cases h

/-- No cell of the block is marked. -/
def blkFree (H : Heap) (b : Nat) : Bool := match H[b]? with
  | some (.cells _ _ f) => Nat.beq f.1 0 && Nat.beq f.2 0
  | _ => false
theorem blkFree_spec {b : Nat} (h : blkFree H b = true) (o : Nat) : cellFree H b o = true := by
  unfold blkFree at h
  unfold cellFree
  split at h
  · rename_i c e f hb
    rw [Bool.and_eq_true] at h
    obtain ⟨lo, hi⟩ := f
    have := Nat.eq_of_beq_eq_true h.2
    dsimp only at this
    subst this
    simp [hb]
  · cases h
theorem blk_blkFree {b : Nat} {c : Array Value} {e : TypeId} (h : H[b]? = some (.cells c e (0, 0))) : blkFree H b = true := by simp [blkFree, h]
@[simp] theorem blkFree_setH (b o : Nat) (v : Value) (b' : Nat) : blkFree (setH H b o v) b' = blkFree H b' := by
  unfold blkFree
  by_cases e : b = b'
  · subst e
    cases h : H[b]? with
    | none => simp [setH, Array.getElem?_modify, h]
    | some x => cases x <;> simp [setH, Array.getElem?_modify, h]
  · rw [get_setH_ne e]

theorem wpH_storeAgg {t : TypeId} {n b o : Nat} {vs : Array Value} {k : Value → T} (ht : aggT P t n = true) (hn : vs.size = n) (hv : ∀ v ∈ vs.toList, oneV v = true) (h : rowOk H b o n = true) (hf : blkFree H b = true)
    (hk : wpH P Q (k undef) R (setRowH H b o vs.toList)) : wpH P Q (.op [] (.store t (.pointer (some ⟨b, o, none⟩)) (.agg vs)) k) R H := by
  intro w hw
  subst hw
  obtain ⟨w', hw', hkp, hh⟩ := run_storeCells (P := P) (j := 0) (b := b) (o := o) hv fun i _ hi => ⟨rowOk_spec h i (by simp at hi; omega), blkFree_spec hf _⟩
  have h2 := (aggT_spec ht).2.1 w
  have : (N.store t (.pointer (some ⟨b, o, none⟩)) (.agg vs)).sem.run P w = .ok .skip w' := by
    simp [N.sem, Instr.storeAt, Instr.sureAddr, storeVar, h2, Value.cells, hn, hw']
  rw [this]
  exact ⟨hkp, held_nil _ _, by rw [hh]; exact hk⟩
end

@[simp] theorem cellD_push_new (H : Heap) (c : Array Value) (e : TypeId) (f : Nat × Nat) (o : Nat) : cellD (H.push (.cells c e f)) H.size o = c.getD o undef := by simp [cellD]
@[simp] theorem cellOk_push_new (H : Heap) (c : Array Value) (e : TypeId) (f : Nat × Nat) (o : Nat) : cellOk (H.push (.cells c e f)) H.size o = Nat.blt o c.size := by simp [cellOk]
@[simp] theorem cellFree_push_new (H : Heap) (c : Array Value) (e : TypeId) (o : Nat) : cellFree (H.push (.cells c e (0, 0))) H.size o = true := by simp [cellFree]
@[simp] theorem rowD_push_new (H : Heap) (c : Array Value) (e : TypeId) (f : Nat × Nat) (o n : Nat) : rowD (H.push (.cells c e f)) H.size o n = c.extract o (o + n) := by simp [rowD]
@[simp] theorem rowOk_push_new (H : Heap) (c : Array Value) (e : TypeId) (f : Nat × Nat) (o n : Nat) : rowOk (H.push (.cells c e f)) H.size o n = Nat.ble (o + n) c.size := by simp [rowOk]
@[simp] theorem blkFree_push_new (H : Heap) (c : Array Value) (e : TypeId) : blkFree (H.push (.cells c e (0, 0))) H.size = true := by simp [blkFree]
theorem get_push_lt {H : Heap} {x : Obj} {b : Nat} (h : b < H.size) : (H.push x)[b]? = H[b]? := by rw [Array.getElem?_push, if_neg (by omega)]
theorem cellD_push_old {H : Heap} {x : Obj} {b o : Nat} (h : b < H.size) : cellD (H.push x) b o = cellD H b o := by unfold cellD; rw [get_push_lt h]
theorem cellOk_push_old {H : Heap} {x : Obj} {b o : Nat} (h : b < H.size) : cellOk (H.push x) b o = cellOk H b o := by unfold cellOk; rw [get_push_lt h]
theorem cellFree_push_old {H : Heap} {x : Obj} {b o : Nat} (h : b < H.size) : cellFree (H.push x) b o = cellFree H b o := by unfold cellFree; rw [get_push_lt h]

/-! ### Numbers, addresses: without the world -/

section
variable {P : Program}
@[simp] theorem dry_add (t : TypeId) (xo yo : Operand) (k : IntKind) (a b : Int) : dry P (N.bin .add t xo yo (.int k a) (.int k b)).sem = some (.value (.int k (k.wrap (a + b)))) := by cases k <;> rfl
@[simp] theorem dry_sub (t : TypeId) (xo yo : Operand) (k : IntKind) (a b : Int) : dry P (N.bin .sub t xo yo (.int k a) (.int k b)).sem = some (.value (.int k (k.wrap (a - b)))) := by cases k <;> rfl
@[simp] theorem dry_mul (t : TypeId) (xo yo : Operand) (k : IntKind) (a b : Int) : dry P (N.bin .mul t xo yo (.int k a) (.int k b)).sem = some (.value (.int k (k.wrap (a * b)))) := by cases k <;> rfl
@[simp] theorem dry_eql (t : TypeId) (xo yo : Operand) (k : IntKind) (a b : Int) : dry P (N.bin .eql t xo yo (.int k a) (.int k b)).sem = some (.value (.bool (a == b))) := by cases k <;> rfl
@[simp] theorem dry_neq (t : TypeId) (xo yo : Operand) (k : IntKind) (a b : Int) : dry P (N.bin .neq t xo yo (.int k a) (.int k b)).sem = some (.value (.bool (a != b))) := by cases k <;> rfl
@[simp] theorem dry_lss (t : TypeId) (xo yo : Operand) (k : IntKind) (a b : Int) : dry P (N.bin .lss t xo yo (.int k a) (.int k b)).sem = some (.value (.bool (decide (a < b)))) := by cases k <;> rfl
@[simp] theorem dry_leq (t : TypeId) (xo yo : Operand) (k : IntKind) (a b : Int) : dry P (N.bin .leq t xo yo (.int k a) (.int k b)).sem = some (.value (.bool (decide (a ≤ b)))) := by cases k <;> rfl
@[simp] theorem dry_gtr (t : TypeId) (xo yo : Operand) (k : IntKind) (a b : Int) : dry P (N.bin .gtr t xo yo (.int k a) (.int k b)).sem = some (.value (.bool (decide (a > b)))) := by cases k <;> rfl
@[simp] theorem dry_geq (t : TypeId) (xo yo : Operand) (k : IntKind) (a b : Int) : dry P (N.bin .geq t xo yo (.int k a) (.int k b)).sem = some (.value (.bool (decide (a ≥ b)))) := by cases k <;> rfl
theorem dry_rem (t : TypeId) (xo yo : Operand) (k : IntKind) (a b : Int) (hb : b ≠ 0) : dry P (N.bin .rem t xo yo (.int k a) (.int k b)).sem = some (.value (.int k (a.tmod b))) := by
  have e : ∀ w : Unit, dry P (N.bin .rem t xo yo (.int k a) (.int k b)).sem = dry P (do pure (Next.value (← Op.intDiv .rem k a b))) := fun _ => by cases k <;> rfl
  rw [e ()]
  simp only [Op.intDiv, if_neg hb]
  rfl
theorem dry_quo (t : TypeId) (xo yo : Operand) (k : IntKind) (a b : Int) (hb : b ≠ 0) : dry P (N.bin .quo t xo yo (.int k a) (.int k b)).sem = some (.value (.int k (k.wrap (a.tdiv b)))) := by
  have e : ∀ w : Unit, dry P (N.bin .quo t xo yo (.int k a) (.int k b)).sem = dry P (do pure (Next.value (← Op.intDiv .quo k a b))) := fun _ => by cases k <;> rfl
  rw [e ()]
  simp only [Op.intDiv, if_neg hb]
  rfl
@[simp] theorem dry_not (b : Bool) : dry P (N.un .not (.bool b)).sem = some (.value (.bool !b)) := rfl
@[simp] theorem dry_nilChk (a : Addr) : dry P (N.nilChk (.pointer (some a))).sem = some (.value (.pointer (some a))) := rfl
@[simp] theorem dry_extract (vs : Array Value) (i : Nat) (h : i < vs.size) : dry P (N.extract (.tuple vs) i).sem = some (.value vs[i]) := by
  simp [N.sem, Instr.extract, h]; rfl
@[simp] theorem dry_pick (b : Bool) (x y : Value) : dry P (N.pick (.bool b) x y).sem = some (.value (if b then x else y)) := rfl
@[simp] theorem dry_mkF (f : Fn) (a b : Array Value) : dry P (N.mkF f a b).sem = some (.value (.func f a b)) := rfl
@[simp] theorem dry_min (ts : Array TypeId) (ty : TypeId) (cs : Array Bool) (k : IntKind) (x y : Int) : dry P (N.builtin .min ts ty cs #[.int k x, .int k y]).sem = some (.value (.int k (if y < x then y else x))) := rfl
@[simp] theorem dry_max (ts : Array TypeId) (ty : TypeId) (cs : Array Bool) (k : IntKind) (x y : Int) : dry P (N.builtin .max ts ty cs #[.int k x, .int k y]).sem = some (.value (.int k (if y > x then y else x))) := rfl
@[simp] theorem dry_min3 (ts : Array TypeId) (ty : TypeId) (cs : Array Bool) (k : IntKind) (x y z : Int) : dry P (N.builtin .min ts ty cs #[.int k x, .int k y, .int k z]).sem = some (.value (.int k (if z < (if y < x then y else x) then z else (if y < x then y else x)))) := rfl


/-- The cells of a slice type's element. -/
def sliceT (P : Program) (t : TypeId) : Option Nat := match P.underlying t with
  | some (.slice e) => (P.info? e).map (·.size)
  | _ => none
/-- An array type's length and its element's cells. -/
def arrT (P : Program) (t : TypeId) : Option (Nat × Nat) := match P.underlying t with
  | some (.array n e) => (P.info? e).map fun i => (n, i.size)
  | _ => none

theorem dry_bind {α β : Type} (s : Sem α) (f : α → Sem β) : dry P (s >>= f) = (dry P s).bind fun a => dry P (f a) := by
  show dry P (s.bind f) = _
  induction s with
  | pure a => rfl
  | program k ih => exact ih P
  | mark m k ih => exact ih
  | _ => rfl

theorem dry_indexA {t : TypeId} {sz b o n c : Nat} {k : IntKind} {i : Int} (h : sliceT P t = some sz) (h0 : 0 ≤ i) (h1 : i < n) :
    dry P (N.indexA t (.slice (some ⟨b, o, none⟩) n c) (.int k i)).sem = some (.value (.pointer (some ⟨b, o + i.toNat * sz, none⟩))) := by
  unfold sliceT at h
  split at h
  · rename_i e hu
    obtain ⟨info, hi, hs⟩ := Option.map_eq_some_iff.1 h
    simp only [N.sem, Instr.indexAt, dry_bind]
    simp [asIntOf, dry, underlying, program, Pure.pure, dry_bind, hu, h0, h1, sizeOf, typeInfo, hi, hs, add_none]
  · cases h

theorem dry_indexArr {t : TypeId} {len sz b o : Nat} {k : IntKind} {i : Int} (h : arrT P t = some (len, sz)) (h0 : 0 ≤ i) (h1 : i < len) :
    dry P (N.indexA t (.pointer (some ⟨b, o, none⟩)) (.int k i)).sem = some (.value (.pointer (some ⟨b, o + i.toNat * sz, none⟩))) := by
  unfold arrT at h
  split at h
  · rename_i n e hu
    obtain ⟨info, hi, hs⟩ := Option.map_eq_some_iff.1 h
    simp only [Prod.mk.injEq] at hs
    obtain ⟨rfl, hs⟩ := hs
    simp only [N.sem, Instr.indexAt, dry_bind]
    simp [asIntOf, dry, underlying, program, Pure.pure, dry_bind, hu, h0, h1, sizeOf, typeInfo, hi, hs, add_none, Instr.sureAddr]
  · cases h

/-- Reading a length. -/
def lenT (P : Program) (t : TypeId) : Bool := match P.underlying t with
  | some (.slice _) => true
  | _ => false
@[simp] theorem dry_len {t ty : TypeId} {cs : Array Bool} {a : Option Addr} {n c : Nat} (h : lenT P t = true) :
    dry P (N.builtin .len #[t] ty cs #[.slice a n c]).sem = some (.value (.int .i64 n)) := by
  unfold lenT at h
  split at h
  · rename_i e hu
    simp only [N.sem, Go.builtin, Builtin.len_, dry_bind]
    simp [dry, underlying, program, Pure.pure, dry_bind, hu, goInt]
  · cases h

/-- Pointers held against nil. -/
def ptrT (P : Program) (t : TypeId) : Bool := match P.underlying t with
  | some (.pointer _) => true
  | _ => false
theorem dry_equal_ptr_nil {t : TypeId} {a : Option Addr} (h : ptrT P t = true) : dry P (Op.equal t (.pointer a) (.pointer none)) = some a.isNone := by
  unfold ptrT at h
  split at h
  · rename_i e hu
    have e3 : ∀ d, dry P (Op.equalIn (d + 1) t (.pointer a) (.pointer none)) = some a.isNone := fun d => by
      unfold Op.equalIn
      cases a <;> simp [dry, Pure.pure, dry_bind, underlying, program, hu]
    exact e3 9999
  · cases h
@[simp] theorem dry_ptr_nil {t : TypeId} {xo yo : Operand} {a : Option Addr} (h : ptrT P t = true) :
    dry P (N.bin .eql t xo yo (.pointer a) (.pointer none)).sem = some (.value (.bool a.isNone)) := by
  simp only [N.sem, dry_bind]
  have e1 : eqGuard .eql t xo yo (.pointer a) (.pointer none) = Pure.pure () := rfl
  have e2 : binOp .eql t (.pointer a) (.pointer none) = (do pure (Value.bool (← Op.equal t (.pointer a) (.pointer none)))) := rfl
  rw [e1, e2]
  simp [dry, Pure.pure, dry_bind, dry_equal_ptr_nil h]
@[simp] theorem dry_ptr_ne_nil {t : TypeId} {xo yo : Operand} {a : Option Addr} (h : ptrT P t = true) :
    dry P (N.bin .neq t xo yo (.pointer a) (.pointer none)).sem = some (.value (.bool a.isSome)) := by
  simp only [N.sem, dry_bind]
  have e1 : eqGuard .neq t xo yo (.pointer a) (.pointer none) = Pure.pure () := rfl
  have e2 : binOp .neq t (.pointer a) (.pointer none) = (do pure (Value.bool (!(← Op.equal t (.pointer a) (.pointer none))))) := rfl
  rw [e1, e2]
  cases a <;> simp [dry, Pure.pure, dry_bind, dry_equal_ptr_nil h]
end

end Go.Tr
