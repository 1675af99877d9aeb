/- Package ring, its exported functions: the contracts over a ring that lies in the heap, by a plain model of a ring. Conditions: the ring lies there; a slice that is put reads as told. -/
import Derived.Test.YtgjafaheglnheaaGreatDoorHsCRing
set_option maxRecDepth 20000
namespace Go.Tr
open Go.Proofs (Tryz.prog)

def Rg.put (r : Rg) (g : Int) : Rg × List Int := if r.l.length = 256 then ({ r with l := r.l.drop 128 }, r.l.take 128 ++ [g]) else ({ r with l := r.l ++ [g] }, [])
def Rg.ready (r : Rg) (g : Int) : Rg × List Int := if r.is then Rg.put { r with next := g, is := true } r.next else ({ r with next := g, is := true }, [])
def Rg.putAll (r : Rg) (l : List Int) : Rg × List Int := ({ r with l := r.l ++ l.take (min l.length (256 - r.l.length)) }, l.drop (min l.length (256 - r.l.length)))
def Rg.get (r : Rg) : Rg × Int × Bool :=
  if r.is = true ∧ r.l = [] then ({ r with streak := 0, is := false }, r.next, true)
  else if r.is = true ∧ r.streak < 4 then ({ r with streak := IntKind.i64.wrap (r.streak + 1), is := false }, r.next, true)
  else if r.l = [] then (r, 0, false)
  else if r.is = true then ({ r with streak := 0, l := r.l.tail ++ [r.next], is := false }, r.l.headD 0, true)
  else ({ r with streak := 0, l := r.l.tail }, r.l.headD 0, true)
def Rg.steal (r : Rg) : Rg × List Int :=
  if r.l = [] ∧ r.is = true then ({ r with streak := 0, is := false }, [r.next])
  else ({ r with l := r.l.drop ((r.l.length + 1) / 2) }, r.l.take ((r.l.length + 1) / 2))
def Rg.list (r : Rg) : List Int := r.l ++ (if r.is then [r.next] else [])

/-- A row handed back, made anew or nil. -/
structure GiveTo (H H' : Heap) (v : Value) (xs : List Int) : Prop where
  owns : Owns H' 1 3 v (xs.map i64)
  fresh : ∀ c, blkOf v = some c → H.size ≤ c

theorem GiveTo.nil (H H' : Heap) : GiveTo H H' (.slice none 0 0) [] := ⟨.inl ⟨rfl, rfl⟩, by simp⟩

section
variable {H : Heap} {b : Nat} {r : Rg} {g : Int}

theorem RingTo.trans {H' H'' : Heap} {r1 r2 : Rg} (h : RingTo H H' b r1) (k : RingTo H' H'' b r2) : RingTo H H'' b r2 := ⟨k.now, h.mod.trans k.mod⟩
theorem RingAt.room (h : RingAt H b r) : r.l.length ≤ 256 := by obtain ⟨_, _, _, h2⟩ := h; exact h2.room
theorem RingAt.size_eq (h : RingAt H b r) : ∃ s head, RgBlk H b s (head : Nat) r.l.length r.is r.next r.streak ∧ Laid s head r.l := h

theorem RingAt.streak (h : RingAt H b r) (x : Int) : RingTo H (setH H b 260 (i64 x)) b { r with streak := x } := by
  obtain ⟨s, hd, h1, h2⟩ := h; exact ⟨⟨s, hd, h1.setStreak x, h2⟩, Mod.setH _ _ _ (by simp)⟩
theorem RingAt.c257 (h : RingAt H b r) : cellOk H b 257 = true ∧ cellD H b 257 = i64 r.l.length := by obtain ⟨s, hd, h1, h2⟩ := h; exact ⟨h1.ok (by decide), h1.c257⟩
theorem RingAt.c258 (h : RingAt H b r) : cellOk H b 258 = true ∧ cellD H b 258 = .bool r.is := by obtain ⟨s, hd, h1, h2⟩ := h; exact ⟨h1.ok (by decide), h1.c258⟩
theorem RingAt.c259 (h : RingAt H b r) : cellOk H b 259 = true ∧ cellD H b 259 = i64 r.next := by obtain ⟨s, hd, h1, h2⟩ := h; exact ⟨h1.ok (by decide), h1.c259⟩
theorem RingAt.c260 (h : RingAt H b r) : cellOk H b 260 = true ∧ cellD H b 260 = i64 r.streak := by obtain ⟨s, hd, h1, h2⟩ := h; exact ⟨h1.ok (by decide), h1.c260⟩
theorem RingAt.free (h : RingAt H b r) (o : Nat) : cellFree H b o = true := by obtain ⟨s, hd, h1, h2⟩ := h; exact h1.free o

/-- One more in a row that was handed back. -/
theorem give_append {Q : Value → Heap → Prop} {v : Value} {xs : List Int} {H1 : Heap} (ho : Owns H1 1 3 v (xs.map i64)) (hf : ∀ c, blkOf v = some c → H.size ≤ c) (hs : H.size ≤ H1.size) (hl : xs.length ≤ 2 ^ 34)
    (hQ : ∀ v' H2, GiveTo H H2 v' (xs ++ [g]) → (∀ k, k < H.size → H2[k]? = H1[k]?) → H1.size ≤ H2.size → Q v' H2) {k : Value → T} {R : Option Nat → List Value → Heap → Prop} {Q' : List Value → Heap → Prop}
    (hk : ∀ v' H2, Q v' H2 → wpH Tryz.prog Q' (k v') R H2) :
    wpH Tryz.prog Q' (.op [] (.buildSlice 33 1 #[(0, i64 g)]) fun v13 => .op [] (.builtin .append #[33, 33] 33 #[false, false] #[v, v13]) k) R H1 := by
  refine wpH_buildSlice (bs_33_1 g) ?_
  have hop := ho.push (.cells #[i64 g] 3 (0, 0))
  have hrd : Reads (H1.push (.cells #[i64 g] 3 (0, 0))) 1 (.slice (some ⟨H1.size, 0, none⟩) 1 1) ([g].map i64) := .inr ⟨H1.size, 0, 1, 1, rfl, by simp, by simp, by simp⟩
  refine wpH_append app_33_33 (by decide) (by decide) rfl hop hrd (one_ints _) (by rw [hop.len]; simp [lenV]; omega) ?_
  intro v' H2 hto
  refine hk _ _ (hQ v' H2 ⟨by have := hto.owns; rw [← List.map_append] at this; exact this, fun c hc => ?_⟩ (fun i hi => ?_) ?_)
  · rcases hto.blk with h | h
    · rw [h] at hc; exact hf c hc
    · rw [h] at hc; simp at hc; omega
  · rw [hto.mod.old i (by simp; omega) (by intro hm; have := hf i (by simpa using hm); omega), get_push_lt (by omega)]
  · have := hto.mod.size; simp at this; omega

theorem ring_put (h : RingAt H b r) : CallsH Tryz.prog 328 #[ptr b, i64 g] H fun v H' => GiveTo H H' v (r.put g).2 ∧ RingTo H H' b (r.put g).1 := by
  apply calls328
  obtain ⟨h1, h2⟩ := h.c257
  have hr := h.room
  by_cases hf : r.l.length = 256
  · simp [t328, h1, h2, hf, Rg.put]
    refine (ring_pop (n := 128) h (by omega)).mono ?_
    rintro v H1 ⟨ho, hfr, hto⟩
    refine give_append (Q := fun v' H2 => GiveTo H H2 v' (r.l.take 128 ++ [g]) ∧ RingTo H H2 b { r with l := r.l.drop 128 }) ho hfr hto.mod.size (by simp; omega) (fun v' H2 hg hold hsz => ⟨hg, ?_, ?_⟩) (fun v' H2 q => by simpa using q)
    · obtain ⟨s, hd, e1, e2⟩ := hto.now
      exact ⟨s, hd, ⟨e1.len, by rw [Blk, hold b h.lt]; exact e1.blk⟩, e2⟩
    · exact ⟨by have := hto.mod.size; omega, fun k hk hn => (hold k hk).trans (hto.mod.old k hk hn)⟩
  · have hf' : ¬ ((r.l.length : Int) = 256) := by omega
    simp [t328, h1, h2, hf', hf, Rg.put]
    refine (ring_push h (by omega)).mono ?_
    rintro _ H1 hto
    exact ⟨GiveTo.nil _ _, hto⟩

theorem ring_ready (h : RingAt H b r) : CallsH Tryz.prog 284 #[ptr b, i64 g] H fun v H' => GiveTo H H' v (r.ready g).2 ∧ RingTo H H' b (r.ready g).1 := by
  apply calls284
  simp [t284]
  refine (ring_next h).mono ?_
  rintro _ _ ⟨rfl, e⟩
  obtain rfl := e.symm
  obtain ⟨h1, _⟩ := h.c259
  obtain ⟨h3, _⟩ := h.c258
  have hto : RingTo H (setH (setH H b 259 (i64 g)) b 258 (.bool true)) b { r with next := g, is := true } := by
    obtain ⟨s, hd, e1, e2⟩ := h
    exact ⟨⟨s, hd, (e1.setNext g).setIs true, e2⟩, (Mod.setH _ _ _ (by simp)).trans (Mod.setH _ _ _ (by simp))⟩
  cases hr : r.is
  · simp [hr, h1, h3, h.free, Rg.ready]
    exact ⟨GiveTo.nil _ _, hto⟩
  · simp [hr, h1, h3, h.free, Rg.ready]
    refine (ring_put hto.now).mono ?_
    rintro v H1 ⟨hg, hto2⟩
    try simp
    exact ⟨⟨hg.owns, fun c hc => by have := hg.fresh c hc; simp at this; omega⟩, hto.trans hto2⟩

def PutInv (H : Heap) (b : Nat) (r : Rg) (l : List Int) (s : List Value) (H1 : Heap) : Prop :=
  ∃ k : Nat, k ≤ l.length ∧ s = [i64 k] ∧ RingTo H H1 b { r with l := r.l ++ l.take k }

/-- The rest of an owned row, from a place on. -/
theorem Owns.rest {xs : List Int} {a : Option Addr} {n c : Nat} (h : Owns H 1 3 (.slice a n c) (xs.map i64)) {k : Nat} (hk : k ≤ xs.length) :
    Reads H 1 (.slice (if c = k then a else a.map (·.add k)) (xs.length - k) (c - k)) ((xs.drop k).map i64) := by
  rcases h with ⟨h, hx⟩ | ⟨b, n', c', l, h, h1, h2, h3, h4, h5⟩
  · cases h
    have : xs = [] := by simpa using hx
    subst this
    have : k = 0 := by simpa using hk
    subst this
    exact .inl ⟨rfl, rfl⟩
  · cases h
    simp at h1 h2 h5
    subst h1
    have ht : xs.map i64 = l.take xs.length := h5.symm
    by_cases hcj : c = k
    · rw [if_pos hcj]
      have : xs.length = k := by omega
      refine .inr ⟨b, 0, _, _, rfl, by simp, ?_, ?_⟩
      · rw [blk_rowOk h4]; exact Nat.ble_eq_true_of_le (by simp; omega)
      · rw [blk_row h4]; simp [this]
    · rw [if_neg hcj, Option.map_some, add_none]
      refine .inr ⟨b, 0 + k, _, _, rfl, by simp, ?_, ?_⟩
      · rw [blk_rowOk h4]; exact Nat.ble_eq_true_of_le (by simp; omega)
      · rw [blk_row h4, List.map_drop, ht]
        simp [List.drop_take]

theorem Owns.blk_lt {e : TypeId} {sz : Nat} {v : Value} {cs : List Value} (h : Owns H sz e v cs) {c : Nat} (hc : blkOf v = some c) : c < H.size := h.lt hc

theorem ring_putAll {x : Value} {l : List Int} (h : RingAt H b r) (hr : Owns H 1 3 x (l.map i64)) (hx : blkOf x ≠ some b) (hl : l.length ≤ 2 ^ 34) :
    CallsH Tryz.prog 283 #[ptr b, x] H fun v H' => GiveTo H H' v (r.putAll l).2 ∧ RingTo H H' b (r.putAll l).1 := by
  apply calls283
  obtain ⟨h1, h2⟩ := h.c257
  have hroom := h.room
  obtain ⟨a, n, c, rfl⟩ := hr.shape
  obtain ⟨m, hm⟩ : ∃ m, m = min l.length (256 - r.l.length) := ⟨_, rfl⟩
  have hml : m ≤ l.length := by omega
  obtain ⟨hn, hnc, hrd⟩ := hr.cut hml
  subst hn
  have hw : IntKind.i64.wrap (256 - (r.l.length : Int)) = 256 - (r.l.length : Int) := wrap_i64 _ (by omega) (by omega)
  have hmin : (if (256 - (r.l.length : Int)) < (l.length : Int) then 256 - (r.l.length : Int) else (l.length : Int)) = (m : Int) := by split <;> omega
  have hcut : dry Tryz.prog (N.slice 33 (.slice a l.length c) none (some (i64 m)) none).sem = some (.value (.slice a m c)) := by
    have := dry_cut_hi (P := Tryz.prog) (n := l.length) (c := c) (a := a) (k := .i64) (i := (m : Int)) sl_33 (by omega) (by omega)
    simpa using this
  have hcut2 := dry_cut_lo (P := Tryz.prog) (n := l.length) (c := c) (a := a) (k := .i64) (i := (m : Int)) sl_33 (by omega) (by omega)
  simp only [t283, wpH_pure_eq]
  simp [h1, h2, hw, hmin, hcut]
  refine wpH_loop (PutInv H b r (l.take m)) (fun s _ => m - (intOf (sl s 0)).toNat) ⟨0, by omega, rfl, ⟨by simpa using h, Mod.refl _ _⟩⟩ ?_
  rintro s H1 ⟨k, hk, rfl, hto⟩
  have hlt2 : (l.take m).length = m := by simp; omega
  rw [hlt2] at hk
  have hr1 : Owns H1 1 3 (.slice a l.length c) (l.map i64) := hr.of_mod hto.mod (by intro d hd; simp; intro e; exact hx (by rw [hd, e]))
  by_cases hkm : k < m
  · obtain ⟨_, hc⟩ := reads_cell (hr1.cut hml).2.2 rfl
    obtain ⟨b', o', ha, hok, hd⟩ := hc k (by omega)
    subst ha
    have hw3 : IntKind.i64.wrap ((k : Int) + 1) = ((k + 1 : Nat) : Int) := by rw [wrap_i64 _ (by omega) (by omega)]; simp
    simp [hkm, dry_indexA sl_33 (show (0 : Int) ≤ (k : Int) by omega) (show (k : Int) < (m : Int) by omega), hok, hd, hw3]
    refine (ring_push hto.now (by simp; omega)).mono ?_
    rintro _ H2 hto2
    try simp
    refine ⟨⟨k + 1, by omega, by simp, ?_⟩, by simp [intOf]; omega⟩
    have e : (l.take m).take (k + 1) = (l.take m).take k ++ [l[k]?.getD 0] := by
      rw [List.take_succ_eq_append_getElem (by omega)]
      simp [show k < l.length by omega]
    refine ⟨?_, hto.mod.trans hto2.mod⟩
    have := hto2.now
    simp [show k < m by omega] at this
    rw [e]
    simpa using this
  · have hkm : k = m := by omega
    subst hkm
    simp [hcut2]
    have hrest := hr1.rest hml
    refine (clone_ints hrest (by simp [lenV]; omega)).mono ?_
    rintro v H2 hnew
    try simp
    have e : (l.take k).take k = l.take k := by rw [List.take_take, Nat.min_self]
    rw [e] at hto
    unfold Rg.putAll
    rw [← hm]
    exact ⟨⟨hnew.owns, fun d hd => by have := hnew.fresh d hd; have := hto.mod.size; omega⟩, ⟨hto.now.of_mod hnew.mod (by simp), hto.mod.trans (hnew.mod.mono (by simp))⟩⟩

theorem ring_get (h : RingAt H b r) : CallsH Tryz.prog 274 #[ptr b] H fun v H' => v = .tuple #[i64 r.get.2.1, .bool r.get.2.2] ∧ RingTo H H' b r.get.1 := by
  apply calls274
  obtain ⟨k1, k2⟩ := h.c257
  obtain ⟨k3, k4⟩ := h.c258
  obtain ⟨k5, k6⟩ := h.c260
  have hroom := h.room
  have hst := h.streak 0
  have hzero : ((r.l.length : Int) = 0) ↔ r.l = [] := by simp
  cases hr : r.is
  · by_cases hl : r.l = []
    · simp [t274, k1, k2, k3, k4, hr, hl, Rg.get]
      exact ⟨h, Mod.refl _ _⟩
    · simp [t274, k1, k2, k3, k4, hr, hl, Rg.get, k5, h.free]
      refine (ring_pop (n := 1) hst.now (by have := List.length_pos_iff.2 hl; dsimp only; omega)).mono ?_
      rintro v H1 ⟨ho, hf, hto⟩
      obtain ⟨x, xs, hx⟩ := List.exists_cons_of_ne_nil hl
      obtain ⟨a, n, c, rfl⟩ := ho.shape
      have hlen := ho.len
      simp [hx, lenV] at hlen
      subst hlen
      obtain ⟨_, hc⟩ := reads_cell (f := i64) (xs := [x]) (by simpa [hx] using ho.reads) rfl
      obtain ⟨b', o', rfl, hok, hd⟩ := hc 0 (by simp)
      simp at hok hd
      obtain ⟨q3, q4⟩ := hto.now.c258
      simp [dry_indexA sl_33 (show (0 : Int) ≤ 0 by omega) (show (0 : Int) < (1 : Nat) by omega), hok, hd, q3, q4, hr, hx]
      exact ⟨by simpa [hx, hr] using hto.now, by simpa using hst.mod.trans hto.mod⟩
  · obtain ⟨q1, q2⟩ := hst.now.c258
    by_cases hl : r.l = []
    · simp [t274, k1, k2, k3, k4, hr, hl, Rg.get, k5, h.free]
      refine (ring_take hst.now).mono ?_
      rintro v H1 ⟨rfl, hto⟩
      simp
      exact ⟨by simpa [hl] using hto.now, hst.mod.trans hto.mod⟩
    · by_cases h4 : r.streak < 4
      · have hw : ∃ x, x = IntKind.i64.wrap (r.streak + 1) := ⟨_, rfl⟩
        simp [t274, k1, k2, k3, k4, hr, hl, Rg.get, k5, k6, h.free, h4]
        refine (ring_take (h.streak (IntKind.i64.wrap (r.streak + 1))).now).mono ?_
        rintro v H1 ⟨rfl, hto⟩
        simp
        exact ⟨hto.now, (h.streak _).mod.trans hto.mod⟩
      · simp [t274, k1, k2, k3, k4, hr, hl, Rg.get, k5, k6, h.free, h4]
        refine (ring_pop (n := 1) hst.now (by have := List.length_pos_iff.2 hl; dsimp only; omega)).mono ?_
        rintro v H1 ⟨ho, hf, hto⟩
        obtain ⟨x, xs, hx⟩ := List.exists_cons_of_ne_nil hl
        obtain ⟨a, n, c, rfl⟩ := ho.shape
        have hlen := ho.len
        simp [hx, lenV] at hlen
        subst hlen
        obtain ⟨_, hc⟩ := reads_cell (f := i64) (xs := [x]) (by simpa [hx] using ho.reads) rfl
        obtain ⟨b', o', rfl, hok, hd⟩ := hc 0 (by simp)
        simp at hok hd
        obtain ⟨q3, q4⟩ := hto.now.c258
        simp [dry_indexA sl_33 (show (0 : Int) ≤ 0 by omega) (show (0 : Int) < (1 : Nat) by omega), hok, hd, q3, q4, hr, hx]
        refine (ring_take hto.now).mono ?_
        rintro _ H2 ⟨rfl, hto2⟩
        simp
        refine (ring_push hto2.now (by simp [hx]; rw [hx] at hroom; simp at hroom; omega)).mono ?_
        rintro _ H3 hto3
        try simp
        exact ⟨by simpa [hx] using hto3.now, ((hst.mod.trans hto.mod).trans hto2.mod).trans hto3.mod⟩

theorem ring_steal (h : RingAt H b r) : CallsH Tryz.prog 277 #[ptr b] H fun v H' => GiveTo H H' v r.steal.2 ∧ RingTo H H' b r.steal.1 := by
  apply calls277
  obtain ⟨k1, k2⟩ := h.c257
  obtain ⟨k3, k4⟩ := h.c258
  obtain ⟨k5, k6⟩ := h.c260
  have hroom := h.room
  have hst := h.streak 0
  by_cases hc : r.l = [] ∧ r.is = true
  · obtain ⟨hl, hr⟩ := hc
    simp [t277, k1, k2, k3, k4, hl, hr, Rg.steal, k5, h.free]
    refine (ring_take hst.now).mono ?_
    rintro v H1 ⟨rfl, hto⟩
    refine wpH_buildSlice (bs_33_1 r.next) ?_
    simp
    have hm := hst.mod.trans hto.mod
    refine ⟨⟨.inr ⟨H1.size, 1, 1, [i64 r.next], rfl, by simp, by simp, by omega, by rw [Blk]; simp, by simp⟩, ?_⟩, ?_, hm.trans (Mod.push _ _)⟩
    · intro c hc; simp at hc; have := hm.size; omega
    · have := hto.now.of_mod (Mod.push (.cells #[i64 r.next] 3 (0, 0)) []) (by simp)
      simpa [hl] using this
  · have hw1 : IntKind.i64.wrap ((r.l.length : Int) + 1) = (r.l.length : Int) + 1 := wrap_i64 _ (by omega) (by omega)
    have hd : ((r.l.length : Int) + 1).tdiv 2 = (((r.l.length + 1) / 2 : Nat) : Int) := by rw [Int.tdiv_eq_ediv_of_nonneg (by omega)]; omega
    obtain ⟨m, hm⟩ : ∃ m, m = (r.l.length + 1) / 2 := ⟨_, rfl⟩
    rw [← hm] at hd
    have hw2 : IntKind.i64.wrap (m : Int) = (m : Int) := wrap_i64 _ (by omega) (by omega)
    have fin : CallsH Tryz.prog 223 #[ptr b, i64 (m : Nat)] H fun v H' => GiveTo H H' v r.steal.2 ∧ RingTo H H' b r.steal.1 := by
      refine (ring_pop (n := m) h (by omega)).mono ?_
      rintro v H1 ⟨ho, hf, hto⟩
      unfold Rg.steal
      rw [if_neg hc, ← hm]
      exact ⟨⟨ho, hf⟩, hto⟩
    by_cases hl : r.l = []
    · have hr : r.is = false := by cases hr : r.is <;> simp_all
      simp [t277, k1, k2, k3, k4, hl, hr]
      rw [hl] at hw1 hd
      simp at hw1 hd
      simp [dry_quo _ _ _ _ _ _ (show (2 : Int) ≠ 0 by decide), hw1, hd, hw2]
      exact fin
    · simp [t277, k1, k2, k3, k4, hl, hw1, dry_quo _ _ _ _ _ _ (show (2 : Int) ≠ 0 by decide), hd, hw2]
      exact fin

end
end Go.Tr
