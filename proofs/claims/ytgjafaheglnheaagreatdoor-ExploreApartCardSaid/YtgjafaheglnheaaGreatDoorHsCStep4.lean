/- Package world: a step of a section; where a machine goes on behind it; locked. Conditions: a world lies in the heap; the lock is one of the world's. -/
import Derived.Test.YtgjafaheglnheaaGreatDoorHsCStep3
set_option maxRecDepth 20000
namespace Go.Tr
open Go.Proofs.Tryz (prog)

theorem do_ne_nil (a b : Nat) : dry prog (N.bin .neq 102 (.tmp 43) (.const .nilFunc) (.func (.func 237) #[] #[ptr a, ptr b]) .nilFunc).sem = some (.value (.bool true)) := by kernel_rfl

section
variable {gb : Nat} {K : Fix} {O : Side} {H H' : Heap} {x x' : Wm} {i : Nat} {Q : List Value → Heap → Prop} {R : Option Nat → List Value → Heap → Prop}

theorem alloc_any {t : TypeId} {z : Value} {Q : List Value → Heap → Prop} {R : Option Nat → List Value → Heap → Prop} {k : Value → T} (hz : zeroT prog t = some z)
    (hk : ∀ zc, zc = z.cells → wpH prog Q (k (ptr H.size)) R (H.push (.cells zc t (0, 0)))) : wpH prog Q (.op [] (.alloc t) k) R H := by
  rw [wpH_alloc hz]; exact hk _ rfl

/-- What is stored into a new object, and handed back. -/
theorem store_resv {t : TypeId} {n b : Nat} {zc vs : Array Value} {Q : List Value → Heap → Prop} {R : Option Nat → List Value → Heap → Prop} (ht : aggT prog t n = true) (hb : Blk H b zc t) (hz : zc.size = n) (hn : vs.size = n)
    (hv : ∀ v ∈ vs.toList, oneV v = true) (hQ : Q [.agg vs] (setRowH H b 0 vs.toList)) :
    wpH prog Q (.op [] (.store t (ptr b) (.agg vs)) fun _ => .look (.resv t (ptr b)) fun r0 => .ret [r0]) R H := by
  have hb' : H[b]? = some (.cells zc.toList.toArray t (0, 0)) := by simpa using hb
  have hl : 0 + vs.toList.length ≤ zc.toList.length := by simp; omega
  have h2 := get_setRowH (vs := vs.toList) hb' hl
  refine wpH_storeAgg ht hn hv (by rw [blk_rowOk hb]; exact Nat.ble_eq_true_of_le (by omega)) (blk_blkFree hb) ?_
  rw [wpH_resv_eq, wpH_loadAgg_eq ht (by rw [blk_rowOk h2]; exact Nat.ble_eq_true_of_le (by simp [splice]; omega)), blk_row h2]
  have e : (splice zc.toList 0 vs.toList).toArray.extract 0 (0 + n) = vs := by
    unfold splice
    apply Array.ext
    · simp; omega
    · intro i h1 h2
      simp at h1 h2 ⊢
      rw [List.getElem_append_left (by simpa using h2)]
      try simp
  rw [e]
  exact hQ

theorem section_begin {n s : Int} : CallsH prog 235 #[lockV n s] H fun v H' => v = .agg #[i64 n, i64 s, i64 0, u64 0, i64 0] ∧ Mod H H' [] := by
  apply calls235
  simp only [t235]
  rw [wpH_box, wpH_alloc zero_96]
  have hb0 := get_push_new H (.cells (Value.agg #[i64 n, i64 s]).cells 94 (0, 0))
  have hb1 := get_push_old (x := .cells (Value.cells (.agg #[i64 0, i64 0, i64 0, u64 0, i64 0])) 96 (0, 0)) hb0
  have hb2 := get_push_new (H.push (.cells (Value.agg #[i64 n, i64 s]).cells 94 (0, 0))) (.cells (Value.cells (.agg #[i64 0, i64 0, i64 0, u64 0, i64 0])) 96 (0, 0))
  rw [la_94 (by rw [blk_rowOk hb1]; rfl), blk_row hb1]
  have m0 : Mod H ((H.push (.cells (Value.agg #[i64 n, i64 s]).cells 94 (0, 0))).push (.cells (Value.cells (.agg #[i64 0, i64 0, i64 0, u64 0, i64 0])) 96 (0, 0))) [] := (Mod.push _ _).trans (Mod.push _ _)
  have hlt : H.size < (H.push (.cells (Value.agg #[i64 n, i64 s]).cells 94 (0, 0))).size := by simp
  generalize (H.push (.cells (Value.agg #[i64 n, i64 s]).cells 94 (0, 0))).size = b1 at *
  generalize (H.push (.cells (Value.agg #[i64 n, i64 s]).cells 94 (0, 0))).push (.cells (Value.cells (.agg #[i64 0, i64 0, i64 0, u64 0, i64 0])) 96 (0, 0)) = H1 at *
  simp [Value.cells]
  refine store_resv agg_96 hb2 rfl rfl (by simp) ?_
  exact ⟨rfl, Mod.behind (S' := [b1]) m0 (Mod.setRowH _ _ (by simp)) (by intro k hk hl; simp at hk; omega)⟩

/-- A section is laid into a machine. -/
theorem W.stS (h : W gb K O H x) (hi : i < x.M) {a b c d e : Int} {kk : Value → T} (hK : ∀ H', W gb K O H' (x.upd i fun m => { m with ln := a, ls := b, stage := c, ticket := d, times := e }) → wpH prog Q (kk undef) R H') :
    wpH prog Q (.op [] (.store 96 (.pointer (some ⟨K.ab, i * 18 + 13, none⟩)) (.agg #[i64 a, i64 b, i64 c, u64 d, i64 e])) kk) R H := by
  have s13 := h.setM hi (k := 13) (by decide) (f := fun m => { m with ln := a }) (v := i64 a) (fun _ => rfl) rfl
  have s14 := s13.setM hi (k := 14) (by decide) (f := fun m => { m with ls := b }) (v := i64 b) (fun _ => rfl) rfl
  have s15 := s14.setM hi (k := 15) (by decide) (f := fun m => { m with stage := c }) (v := i64 c) (fun _ => rfl) rfl
  have s16 := s15.setM hi (k := 16) (by decide) (f := fun m => { m with ticket := d }) (v := u64 d) (fun _ => rfl) rfl
  have s17 := s16.setM hi (k := 17) (by decide) (f := fun m => { m with times := e }) (v := i64 e) (fun _ => rfl) rfl
  simp only [Wm.upd_upd] at s17
  obtain ⟨hr, hb⟩ := h.secOk hi
  exact wpH_storeAgg agg_96 rfl (by simp) hr hb (hK _ s17)

/-- The closure that a section calls. -/
theorem w_do {b3 b4 : Nat} {t : Int} (h : W gb K O H x) (ha : ActOk gb K x i t) (h3 : O b3 = some (.cells #[ptr K.b] 57 (0, 0))) (h4 : O b4 = some (.cells #[i64 i] 3 (0, 0))) :
    CallsH prog 237 #[i64 t, ptr b3, ptr b4] H fun v H' => v = .bool (x.act i t).2 ∧ W gb K O H' (x.act i t).1 := by
  apply calls237
  have e3 := h.get h3
  have e4 := h.get h4
  simp [t237, blk_ok e3, blk_cell e3, blk_ok e4, blk_cell e4, Nat.blt]
  refine (ha O H h).mono ?_
  rintro _ H ⟨rfl, h⟩
  try simp
  exact h

/-- What a machine does with its lock held leaves its section alone. -/
structure SameSec (m m' : Mc) : Prop where
  stage : m'.stage = m.stage
  ticket : m'.ticket = m.ticket
  times : m'.times = m.times
  ln : m'.ln = m.ln
  ls : m'.ls = m.ls
  inn : m'.inn = m.inn
  place : m'.place = m.place
theorem SameSec.refl (m : Mc) : SameSec m m := ⟨rfl, rfl, rfl, rfl, rfl, rfl, rfl⟩
structure SameSecs (x x' : Wm) : Prop where
  M : x'.M = x.M
  P : x'.P = x.P
  G : x'.G = x.G
  all : ∀ j, SameSec (x.all j) (x'.all j)
theorem SameSecs.refl (x : Wm) : SameSecs x x := ⟨rfl, rfl, rfl, fun _ => SameSec.refl _⟩
theorem SameSecs.upd {x x' : Wm} (h : SameSecs x x') (j : Nat) (f : Mc → Mc) (hf : ∀ m, SameSec m (f m)) : SameSecs x (x'.upd j f) := by
  refine ⟨h.M, h.P, h.G, fun k => ?_⟩
  simp only [Wm.upd_all]
  by_cases e : k = j
  · subst e
    rw [setF_self]
    obtain ⟨a1, a2, a3, a4, a5, a6, a7⟩ := h.all k
    obtain ⟨b1, b2, b3, b4, b5, b6, b7⟩ := hf (x'.all k)
    exact ⟨b1.trans a1, b2.trans a2, b3.trans a3, b4.trans a4, b5.trans a5, b6.trans a6, b7.trans a7⟩
  · rw [setF_ne e]; exact h.all k
theorem SameSecs.like {x x' x'' : Wm} (h : SameSecs x x') (hM : x''.M = x'.M) (hP : x''.P = x'.P) (hG : x''.G = x'.G) (ha : x''.all = x'.all) : SameSecs x x'' :=
  ⟨hM.trans h.M, hP.trans h.P, hG.trans h.G, fun j => by rw [ha]; exact h.all j⟩
theorem same_flagged {x x' : Wm} (h : SameSecs x x') (i : Nat) (b : Bool) : SameSecs x (x'.flagged i b) := ⟨h.M, h.P, h.G, h.all⟩
theorem same_withMem {x x' : Wm} (h : SameSecs x x') (m : Mem) : SameSecs x (x'.withMem m) := ⟨h.M, h.P, h.G, h.all⟩
theorem same_withRing {x x' : Wm} (h : SameSecs x x') (i : Nat) (r : Rg) : SameSecs x (x'.withRing i r) := ⟨h.M, h.P, h.G, h.all⟩
theorem same_withQueue {x x' : Wm} (h : SameSecs x x') (l : List Int) : SameSecs x (x'.withQueue l) := ⟨h.M, h.P, h.G, h.all⟩
theorem same_withIdle {x x' : Wm} (h : SameSecs x x') (d : Idl) : SameSecs x (x'.withIdle d) := ⟨h.M, h.P, h.G, h.all⟩
theorem same_withSrc {x x' : Wm} (h : SameSecs x x') (d : Src) : SameSecs x (x'.withSrc d) := ⟨h.M, h.P, h.G, h.all⟩
theorem same_withLog {x x' : Wm} (h : SameSecs x x') (e : List Ev) : SameSecs x (x'.withLog e) := ⟨h.M, h.P, h.G, h.all⟩
theorem same_logged {x x' : Wm} (h : SameSecs x x') (e : Ev) : SameSecs x (x'.logged e) := by
  unfold Wm.logged; split
  · exact same_withLog h _
  · exact h
theorem same_found {x x' : Wm} (h : SameSecs x x') (i : Nat) (l : List Int) : SameSecs x (x'.found i l) := by
  unfold Wm.found
  split
  · exact same_flagged h _ _
  · apply SameSecs.upd
    · exact same_flagged h _ _
    · intro m; exact ⟨rfl, rfl, rfl, rfl, rfl, rfl, rfl⟩
theorem same_one {x x' : Wm} (h : SameSecs x x') (i : Nat) (g : Int) (is : Bool) : SameSecs x (x'.one i g is) := by
  unfold Wm.one; split <;> exact same_found h _ _
theorem same_hold {x x' : Wm} (h : SameSecs x x') (i : Nat) (p : Int) (is : Bool) : SameSecs x (x'.hold i p is) := by
  unfold Wm.hold
  split
  · apply SameSecs.upd
    · exact same_flagged h _ _
    · intro m; exact ⟨rfl, rfl, rfl, rfl, rfl, rfl, rfl⟩
  · exact same_flagged h _ _
theorem same_find {x x' : Wm} (h : SameSecs x x') (i : Nat) (t : Int) : SameSecs x (x'.find i t).1 := by
  unfold Wm.find Wm.spinAdd
  dsimp only
  split
  all_goals
    repeat' first
      | split
      | with_reducible exact h
      | with_reducible exact SameSecs.refl _
      | (intro m; exact ⟨rfl, rfl, rfl, rfl, rfl, rfl, rfl⟩)
      | with_reducible apply same_found
      | with_reducible apply same_one
      | with_reducible apply same_hold
      | with_reducible apply same_logged
      | with_reducible apply same_flagged
      | with_reducible apply same_withMem
      | with_reducible apply same_withRing
      | with_reducible apply same_withQueue
      | with_reducible apply same_withIdle
      | with_reducible apply same_withSrc
      | with_reducible apply SameSecs.upd
theorem same_out {x x' : Wm} (h : SameSecs x x') (i : Nat) (t : Int) : SameSecs x (x'.out i t).1 := by
  unfold Wm.out Wm.add Wm.move
  dsimp only
  split
  all_goals
    repeat' first
      | split
      | with_reducible exact h
      | with_reducible exact SameSecs.refl _
      | (intro m; exact ⟨rfl, rfl, rfl, rfl, rfl, rfl, rfl⟩)
      | with_reducible apply same_found
      | with_reducible apply same_one
      | with_reducible apply same_hold
      | with_reducible apply same_logged
      | with_reducible apply same_flagged
      | with_reducible apply same_withMem
      | with_reducible apply same_withRing
      | with_reducible apply same_withQueue
      | with_reducible apply same_withIdle
      | with_reducible apply same_withSrc
      | with_reducible apply SameSecs.upd
theorem same_act (x : Wm) (i : Nat) (t : Int) : SameSecs x (x.act i t).1 := by
  have h := SameSecs.refl x
  by_cases p2 : (x.all i).place = 2
  · simp only [Wm.act, p2]
    simp
    try split
    all_goals
      try dsimp only
      repeat' first
        | with_reducible exact h
        | with_reducible exact SameSecs.refl _
        | (intro m; exact ⟨rfl, rfl, rfl, rfl, rfl, rfl, rfl⟩)
        | with_reducible apply same_found
        | with_reducible apply same_one
        | with_reducible apply same_hold
        | with_reducible apply same_logged
        | with_reducible apply same_flagged
        | with_reducible apply same_withMem
        | with_reducible apply same_withRing
        | with_reducible apply same_withQueue
        | with_reducible apply same_withIdle
        | with_reducible apply same_withSrc
        | with_reducible apply SameSecs.upd
  by_cases p3 : (x.all i).place = 3
  · simp only [Wm.act, p3]
    simp
    try split
    all_goals
      try dsimp only
      repeat' first
        | with_reducible exact h
        | with_reducible exact SameSecs.refl _
        | (intro m; exact ⟨rfl, rfl, rfl, rfl, rfl, rfl, rfl⟩)
        | with_reducible apply same_found
        | with_reducible apply same_one
        | with_reducible apply same_hold
        | with_reducible apply same_logged
        | with_reducible apply same_flagged
        | with_reducible apply same_withMem
        | with_reducible apply same_withRing
        | with_reducible apply same_withQueue
        | with_reducible apply same_withIdle
        | with_reducible apply same_withSrc
        | with_reducible apply SameSecs.upd
  by_cases p4 : (x.all i).place = 4
  · simp only [Wm.act, p4]
    simp
    try split
    all_goals
      try dsimp only
      repeat' first
        | with_reducible exact h
        | with_reducible exact SameSecs.refl _
        | (intro m; exact ⟨rfl, rfl, rfl, rfl, rfl, rfl, rfl⟩)
        | with_reducible apply same_found
        | with_reducible apply same_one
        | with_reducible apply same_hold
        | with_reducible apply same_logged
        | with_reducible apply same_flagged
        | with_reducible apply same_withMem
        | with_reducible apply same_withRing
        | with_reducible apply same_withQueue
        | with_reducible apply same_withIdle
        | with_reducible apply same_withSrc
        | with_reducible apply SameSecs.upd
  by_cases p6 : (x.all i).place = 6
  · simp only [Wm.act, p6]
    simp
    try split
    all_goals
      try dsimp only
      repeat' first
        | with_reducible exact h
        | with_reducible exact SameSecs.refl _
        | (intro m; exact ⟨rfl, rfl, rfl, rfl, rfl, rfl, rfl⟩)
        | with_reducible apply same_found
        | with_reducible apply same_one
        | with_reducible apply same_hold
        | with_reducible apply same_logged
        | with_reducible apply same_flagged
        | with_reducible apply same_withMem
        | with_reducible apply same_withRing
        | with_reducible apply same_withQueue
        | with_reducible apply same_withIdle
        | with_reducible apply same_withSrc
        | with_reducible apply SameSecs.upd
  by_cases p7 : (x.all i).place = 7
  · simp only [Wm.act, p7]
    simp
    try split
    all_goals
      try dsimp only
      repeat' first
        | with_reducible exact h
        | with_reducible exact SameSecs.refl _
        | (intro m; exact ⟨rfl, rfl, rfl, rfl, rfl, rfl, rfl⟩)
        | with_reducible apply same_found
        | with_reducible apply same_one
        | with_reducible apply same_hold
        | with_reducible apply same_logged
        | with_reducible apply same_flagged
        | with_reducible apply same_withMem
        | with_reducible apply same_withRing
        | with_reducible apply same_withQueue
        | with_reducible apply same_withIdle
        | with_reducible apply same_withSrc
        | with_reducible apply SameSecs.upd
  by_cases p9 : (x.all i).place = 9
  · simp only [Wm.act, p9]
    simp
    try split
    all_goals
      try dsimp only
      repeat' first
        | with_reducible exact h
        | with_reducible exact SameSecs.refl _
        | (intro m; exact ⟨rfl, rfl, rfl, rfl, rfl, rfl, rfl⟩)
        | with_reducible apply same_found
        | with_reducible apply same_one
        | with_reducible apply same_hold
        | with_reducible apply same_logged
        | with_reducible apply same_flagged
        | with_reducible apply same_withMem
        | with_reducible apply same_withRing
        | with_reducible apply same_withQueue
        | with_reducible apply same_withIdle
        | with_reducible apply same_withSrc
        | with_reducible apply SameSecs.upd
  by_cases p10 : (x.all i).place = 10
  · simp only [Wm.act, p10]
    simp
    try split
    all_goals
      try dsimp only
      repeat' first
        | with_reducible exact h
        | with_reducible exact SameSecs.refl _
        | (intro m; exact ⟨rfl, rfl, rfl, rfl, rfl, rfl, rfl⟩)
        | with_reducible apply same_found
        | with_reducible apply same_one
        | with_reducible apply same_hold
        | with_reducible apply same_logged
        | with_reducible apply same_flagged
        | with_reducible apply same_withMem
        | with_reducible apply same_withRing
        | with_reducible apply same_withQueue
        | with_reducible apply same_withIdle
        | with_reducible apply same_withSrc
        | with_reducible apply SameSecs.upd
  by_cases p11 : (x.all i).place = 11
  · simp only [Wm.act, p11]
    simp
    try split
    all_goals
      try dsimp only
      repeat' first
        | with_reducible exact h
        | with_reducible exact SameSecs.refl _
        | (intro m; exact ⟨rfl, rfl, rfl, rfl, rfl, rfl, rfl⟩)
        | with_reducible apply same_found
        | with_reducible apply same_one
        | with_reducible apply same_hold
        | with_reducible apply same_logged
        | with_reducible apply same_flagged
        | with_reducible apply same_withMem
        | with_reducible apply same_withRing
        | with_reducible apply same_withQueue
        | with_reducible apply same_withIdle
        | with_reducible apply same_withSrc
        | with_reducible apply SameSecs.upd
  by_cases p13 : (x.all i).place = 13
  · simp only [Wm.act, p13]
    simp
    try split
    all_goals
      try dsimp only
      repeat' first
        | with_reducible exact h
        | with_reducible exact SameSecs.refl _
        | (intro m; exact ⟨rfl, rfl, rfl, rfl, rfl, rfl, rfl⟩)
        | with_reducible apply same_found
        | with_reducible apply same_one
        | with_reducible apply same_hold
        | with_reducible apply same_logged
        | with_reducible apply same_flagged
        | with_reducible apply same_withMem
        | with_reducible apply same_withRing
        | with_reducible apply same_withQueue
        | with_reducible apply same_withIdle
        | with_reducible apply same_withSrc
        | with_reducible apply SameSecs.upd
  by_cases p15 : (x.all i).place = 15
  · simp only [Wm.act, p15]
    simp
    try split
    all_goals
      try dsimp only
      repeat' first
        | with_reducible exact h
        | with_reducible exact SameSecs.refl _
        | (intro m; exact ⟨rfl, rfl, rfl, rfl, rfl, rfl, rfl⟩)
        | with_reducible apply same_found
        | with_reducible apply same_one
        | with_reducible apply same_hold
        | with_reducible apply same_logged
        | with_reducible apply same_flagged
        | with_reducible apply same_withMem
        | with_reducible apply same_withRing
        | with_reducible apply same_withQueue
        | with_reducible apply same_withIdle
        | with_reducible apply same_withSrc
        | with_reducible apply SameSecs.upd
  by_cases p18 : (x.all i).place = 18
  · simp only [Wm.act, p18]
    simp
    try split
    all_goals
      try dsimp only
      repeat' first
        | with_reducible exact h
        | with_reducible exact SameSecs.refl _
        | (intro m; exact ⟨rfl, rfl, rfl, rfl, rfl, rfl, rfl⟩)
        | with_reducible apply same_found
        | with_reducible apply same_one
        | with_reducible apply same_hold
        | with_reducible apply same_logged
        | with_reducible apply same_flagged
        | with_reducible apply same_withMem
        | with_reducible apply same_withRing
        | with_reducible apply same_withQueue
        | with_reducible apply same_withIdle
        | with_reducible apply same_withSrc
        | with_reducible apply SameSecs.upd
  by_cases p27 : (x.all i).place = 27
  · simp only [Wm.act, p27]
    simp
    try split
    all_goals
      try dsimp only
      repeat' first
        | with_reducible exact h
        | with_reducible exact SameSecs.refl _
        | (intro m; exact ⟨rfl, rfl, rfl, rfl, rfl, rfl, rfl⟩)
        | with_reducible apply same_found
        | with_reducible apply same_one
        | with_reducible apply same_hold
        | with_reducible apply same_logged
        | with_reducible apply same_flagged
        | with_reducible apply same_withMem
        | with_reducible apply same_withRing
        | with_reducible apply same_withQueue
        | with_reducible apply same_withIdle
        | with_reducible apply same_withSrc
        | with_reducible apply SameSecs.upd
  by_cases p17 : (x.all i).place = 17
  · simp only [Wm.act, p17]
    simp
    try split
    all_goals
      try dsimp only
      repeat' first
        | with_reducible exact h
        | with_reducible exact SameSecs.refl _
        | (intro m; exact ⟨rfl, rfl, rfl, rfl, rfl, rfl, rfl⟩)
        | with_reducible apply same_found
        | with_reducible apply same_one
        | with_reducible apply same_hold
        | with_reducible apply same_logged
        | with_reducible apply same_flagged
        | with_reducible apply same_withMem
        | with_reducible apply same_withRing
        | with_reducible apply same_withQueue
        | with_reducible apply same_withIdle
        | with_reducible apply same_withSrc
        | with_reducible apply SameSecs.upd
  by_cases p28 : (x.all i).place = 28
  · simp only [Wm.act, p28]
    simp
    try split
    all_goals
      try dsimp only
      repeat' first
        | with_reducible exact h
        | with_reducible exact SameSecs.refl _
        | (intro m; exact ⟨rfl, rfl, rfl, rfl, rfl, rfl, rfl⟩)
        | with_reducible apply same_found
        | with_reducible apply same_one
        | with_reducible apply same_hold
        | with_reducible apply same_logged
        | with_reducible apply same_flagged
        | with_reducible apply same_withMem
        | with_reducible apply same_withRing
        | with_reducible apply same_withQueue
        | with_reducible apply same_withIdle
        | with_reducible apply same_withSrc
        | with_reducible apply SameSecs.upd
  by_cases p14 : (x.all i).place = 14
  · simp only [Wm.act, p14]
    simp
    try split
    all_goals
      try dsimp only
      repeat' first
        | with_reducible exact h
        | with_reducible exact SameSecs.refl _
        | (intro m; exact ⟨rfl, rfl, rfl, rfl, rfl, rfl, rfl⟩)
        | with_reducible apply same_found
        | with_reducible apply same_one
        | with_reducible apply same_hold
        | with_reducible apply same_logged
        | with_reducible apply same_flagged
        | with_reducible apply same_withMem
        | with_reducible apply same_withRing
        | with_reducible apply same_withQueue
        | with_reducible apply same_withIdle
        | with_reducible apply same_withSrc
        | with_reducible apply SameSecs.upd
  by_cases p25 : (x.all i).place = 25
  · simp only [Wm.act, p25]
    simp
    try split
    all_goals
      try dsimp only
      repeat' first
        | with_reducible exact h
        | with_reducible exact SameSecs.refl _
        | (intro m; exact ⟨rfl, rfl, rfl, rfl, rfl, rfl, rfl⟩)
        | with_reducible apply same_found
        | with_reducible apply same_one
        | with_reducible apply same_hold
        | with_reducible apply same_logged
        | with_reducible apply same_flagged
        | with_reducible apply same_withMem
        | with_reducible apply same_withRing
        | with_reducible apply same_withQueue
        | with_reducible apply same_withIdle
        | with_reducible apply same_withSrc
        | with_reducible apply SameSecs.upd
  by_cases p23 : (x.all i).place = 23
  · simp [Wm.act, p23]; exact same_find h _ _
  by_cases p29 : (x.all i).place = 29
  · simp [Wm.act, p29]; exact same_out h _ _
  by_cases p30 : (x.all i).place = 30
  · simp [Wm.act, p30]; exact same_out h _ _
  · simp [Wm.act, p2, p3, p4, p6, p7, p9, p10, p11, p13, p15, p18, p27, p17, p28, p14, p25, p23, p29, p30]
    exact h

theorem w_section {b3 b4 : Nat} (h : W gb K O H x) (hi : i < x.M) (h3 : O b3 = some (.cells #[ptr K.b] 57 (0, 0))) (h4 : O b4 = some (.cells #[i64 i] 3 (0, 0)))
    (hln : 0 ≤ (x.all i).ln ∧ (x.all i).ln < x.mem.W.length) (hls : 0 ≤ (x.all i).ls ∧ (x.all i).ls < x.mem.W.length) (ha : (x.all i).stage = 2 → ActOk gb K x i (x.all i).times) :
    CallsH prog 236 #[.pointer (some ⟨K.ab, i * 18 + 13, none⟩), ptr K.mb, .func (.func 237) #[] #[ptr b3, ptr b4]] H fun v H' => v = .bool (x.sec i).2 ∧ W gb K O H' (x.sec i).1 := by
  apply calls236
  by_cases s0 : (x.all i).stage = 0
  · simp [t236, Nat.add_assoc, h.fm hi, s0]
    obtain ⟨hm, shut⟩ := h.mem
    refine (take_lock hm hln.1 hln.2).mono ?_
    rintro _ H ⟨rfl, t⟩
    have h := shut _ _ t (by simp)
    try simp [Nat.add_assoc]
    refine h.st16 hi one_81 fun H h => ?_
    try simp [Nat.add_assoc]
    refine h.st15 hi one_3 fun H h => ?_
    simp [Nat.add_assoc, h.fm hi]
    simp only [Wm.upd_upd] at h
    simp [Wm.sec, s0]; exact h
  by_cases s1 : (x.all i).stage = 1
  · simp [t236, Nat.add_assoc, h.fm hi, s1]
    obtain ⟨hm, shut⟩ := h.mem
    refine (held_lock hm hls.1 hls.2).mono ?_
    rintro _ H ⟨rfl, t⟩
    have h := shut _ _ t (by simp)
    by_cases hz : IntKind.u64.wrap ((x.all i).ticket - x.mem.get (x.all i).ls) = 0
    · simp [Nat.add_assoc, hz]
      refine h.st15 hi one_3 fun H h => ?_
      simp [Nat.add_assoc, h.fm hi]
      simp [Wm.sec, s1, hz]; exact h
    · simp [Nat.add_assoc, hz, h.fm hi, s1]
      simp [Wm.sec, s1, hz]; exact h
  by_cases s2 : (x.all i).stage = 2
  · simp [t236, Nat.add_assoc, h.fm hi, s2, do_ne_nil]
    refine wpH_callF body_237 ?_
    try simp
    refine (w_do h (ha s2) h3 h4).mono ?_
    rintro _ H ⟨rfl, h⟩
    have sm := same_act x i (x.all i).times
    have hi' : i < (x.act i (x.all i).times).1.M := by rw [sm.M]; exact hi
    simp [Nat.add_assoc, h.fm hi']
    refine h.st17 hi' one_3 fun H h => ?_
    have hs := (sm.all i).stage
    rw [s2] at hs
    cases hb : (x.act i (x.all i).times).2
    · simp [Nat.add_assoc]
      refine h.st15 hi' one_3 fun H h => ?_
      simp only [Wm.upd_upd] at h
      simp [Nat.add_assoc, h.fm hi']
      simp [Wm.sec, s2, hb]; exact h
    · simp [Nat.add_assoc, h.fm hi', hs]
      simp [Wm.sec, s2, hb, hs]; exact h
  by_cases s3 : (x.all i).stage = 3
  · simp [t236, Nat.add_assoc, h.fm hi, s3]
    obtain ⟨hm, shut⟩ := h.mem
    refine (free_lock hm hls.1 hls.2).mono ?_
    rintro _ H ⟨rfl, t⟩
    have h := shut _ _ t (by split <;> simp)
    try simp [Nat.add_assoc]
    refine h.st15 hi one_3 fun H h => ?_
    simp [Nat.add_assoc, h.fm hi]
    simp [Wm.sec, s3]; exact h
  · simp [t236, Nat.add_assoc, h.fm hi, s0, s1, s2, s3]
    simp [Wm.sec, s0, s1, s2, s3]
    exact ⟨rfl, h⟩
end

end Go.Tr
