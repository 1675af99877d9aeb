/- Package ring: the contracts of its functions, over a ring that lies in the heap. Conditions: the ring lies there; pushes have room, pops have so many. -/
import Derived.Test.YtgjafaheglnheaaGreatDoorHsCBatch
set_option maxRecDepth 20000
namespace Go.Tr
open Go.Proofs (Tryz.prog)

/-- A ring as data: its row, and who is next. -/
structure Rg where
  l : List Int
  is : Bool
  next : Int
  streak : Int

/-- The block of a ring. -/
structure RgBlk (H : Heap) (b : Nat) (s : List Int) (head size : Int) (is : Bool) (next streak : Int) : Prop where
  len : s.length = 256
  blk : Blk H b (s.map i64 ++ [i64 head, i64 size, .bool is, i64 next, i64 streak]).toArray 348

/-- The row in the places. -/
structure Laid (s : List Int) (head : Nat) (l : List Int) : Prop where
  hlt : head < 256
  room : l.length ≤ 256
  at_ : ∀ k, k < l.length → s.getD ((head + k) % 256) 0 = l.getD k 0

def RingAt (H : Heap) (b : Nat) (r : Rg) : Prop := ∃ s head, RgBlk H b s (head : Nat) r.l.length r.is r.next r.streak ∧ Laid s head r.l

structure RingTo (H H' : Heap) (b : Nat) (r' : Rg) : Prop where
  now : RingAt H' b r'
  mod : Mod H H' [b]

namespace RgBlk
variable {H : Heap} {b : Nat} {s : List Int} {head size : Int} {is : Bool} {next streak : Int}
theorem ok (h : RgBlk H b s head size is next streak) {o : Nat} (ho : o < 261) : cellOk H b o = true := cellOk_list h.blk (by simp [h.len]; omega)
theorem free (h : RgBlk H b s head size is next streak) (o : Nat) : cellFree H b o = true := blk_free h.blk
theorem slot (h : RgBlk H b s head size is next streak) {k : Nat} (hk : k < 256) : cellD H b k = i64 (s.getD k 0) := by
  rw [cellD_list h.blk]
  have : k < s.length := by rw [h.len]; exact hk
  simp [List.getElem?_append_left, this]
theorem tail (h : RgBlk H b s head size is next streak) (k : Nat) : cellD H b (256 + k) = [i64 head, i64 size, .bool is, i64 next, i64 streak].getD k undef := by
  rw [cellD_list h.blk]
  simp [List.getElem?_append_right, h.len]
theorem c256 (h : RgBlk H b s head size is next streak) : cellD H b 256 = i64 head := h.tail 0
theorem c257 (h : RgBlk H b s head size is next streak) : cellD H b 257 = i64 size := h.tail 1
theorem c258 (h : RgBlk H b s head size is next streak) : cellD H b 258 = .bool is := h.tail 2
theorem c259 (h : RgBlk H b s head size is next streak) : cellD H b 259 = i64 next := h.tail 3
theorem c260 (h : RgBlk H b s head size is next streak) : cellD H b 260 = i64 streak := h.tail 4
theorem setTail (h : RgBlk H b s head size is next streak) (k : Nat) (v : Value) : Blk (setH H b (256 + k) v) b (s.map i64 ++ ([i64 head, i64 size, .bool is, i64 next, i64 streak].set k v)).toArray 348 := by
  rw [Blk, get_setH_list h.blk, List.set_append_right _ _ (by simp [h.len])]
  simp [h.len]
theorem setHead (h : RgBlk H b s head size is next streak) (x : Int) : RgBlk (setH H b 256 (i64 x)) b s x size is next streak := ⟨h.len, h.setTail 0 _⟩
theorem setSize (h : RgBlk H b s head size is next streak) (x : Int) : RgBlk (setH H b 257 (i64 x)) b s head x is next streak := ⟨h.len, h.setTail 1 _⟩
theorem setIs (h : RgBlk H b s head size is next streak) (x : Bool) : RgBlk (setH H b 258 (.bool x)) b s head size x next streak := ⟨h.len, h.setTail 2 _⟩
theorem setNext (h : RgBlk H b s head size is next streak) (x : Int) : RgBlk (setH H b 259 (i64 x)) b s head size is x streak := ⟨h.len, h.setTail 3 _⟩
theorem setStreak (h : RgBlk H b s head size is next streak) (x : Int) : RgBlk (setH H b 260 (i64 x)) b s head size is next x := ⟨h.len, h.setTail 4 _⟩
theorem setSlot (h : RgBlk H b s head size is next streak) {k : Nat} (hk : k < 256) (x : Int) : RgBlk (setH H b k (i64 x)) b (s.set k x) head size is next streak := by
  refine ⟨by simp [h.len], ?_⟩
  rw [Blk, get_setH_list h.blk, List.set_append_left _ _ (by simp [h.len, hk])]
  simp
theorem of_mod (h : RgBlk H b s head size is next streak) {H' : Heap} {S : List Nat} (m : Mod H H' S) (hb : b ∉ S) : RgBlk H' b s head size is next streak := ⟨h.len, m.get h.blk hb⟩
theorem lt (h : RgBlk H b s head size is next streak) : b < H.size := blk_lt h.blk
end RgBlk

theorem RingAt.of_mod {H H' : Heap} {b : Nat} {r : Rg} (h : RingAt H b r) {S : List Nat} (m : Mod H H' S) (hb : b ∉ S) : RingAt H' b r := by
  obtain ⟨s, hd, h1, h2⟩ := h; exact ⟨s, hd, h1.of_mod m hb, h2⟩
theorem RingAt.lt {H : Heap} {b : Nat} {r : Rg} (h : RingAt H b r) : b < H.size := by obtain ⟨s, hd, h1, h2⟩ := h; exact h1.lt

theorem Laid.push {s : List Int} {head : Nat} {l : List Int} (h : Laid s head l) (hs : s.length = 256) (hl : l.length < 256) (g : Int) : Laid (s.set ((head + l.length) % 256) g) head (l ++ [g]) := by
  refine ⟨h.hlt, by simp; omega, fun k hk => ?_⟩
  simp at hk
  have hlt : (head + l.length) % 256 < 256 := Nat.mod_lt _ (by decide)
  rcases Nat.lt_or_ge k l.length with hk' | hk'
  · have hne : (head + l.length) % 256 ≠ (head + k) % 256 := by have := h.hlt; omega
    have := h.at_ k hk'
    simp only [List.getD_eq_getElem?_getD] at this ⊢
    rw [List.getElem?_set_ne hne, this, List.getElem?_append_left hk']
  · have : k = l.length := by omega
    subst this
    simp [hs, hlt]

theorem Laid.drop1 {s : List Int} {head : Nat} {l : List Int} (h : Laid s head l) (hl : 0 < l.length) : Laid s ((head + 1) % 256) l.tail := by
  refine ⟨Nat.mod_lt _ (by decide), by simp; have := h.room; omega, fun k hk => ?_⟩
  simp at hk
  have := h.at_ (k + 1) (by omega)
  have e : ((head + 1) % 256 + k) % 256 = (head + (k + 1)) % 256 := by omega
  rw [e, this]
  simp

section
variable {H : Heap} {b : Nat} {r : Rg} {g : Int}

theorem ring_push (h : RingAt H b r) (hl : r.l.length < 256) : CallsH Tryz.prog 320 #[ptr b, i64 g] H fun _ H' => RingTo H H' b { r with l := r.l ++ [g] } := by
  obtain ⟨s, head, hb, hlaid⟩ := h
  apply calls320
  have hh := hlaid.hlt
  obtain ⟨j, hj⟩ : ∃ j, j = (head + r.l.length) % 256 := ⟨_, rfl⟩
  have hlt : j < 256 := by rw [hj]; exact Nat.mod_lt _ (by decide)
  have hw1 : IntKind.i64.wrap ((head : Int) + (r.l.length : Int)) = (head : Int) + (r.l.length : Int) := wrap_i64 _ (by omega) (by omega)
  have hm : ((head : Int) + (r.l.length : Int)).tmod 256 = (j : Int) := by rw [Int.tmod_eq_emod_of_nonneg (by omega)]; omega
  have hw2 : IntKind.i64.wrap ((r.l.length : Int) + 1) = ((r.l.length + 1 : Nat) : Int) := by rw [wrap_i64 _ (by omega) (by omega)]; simp
  have hpush := hlaid.push hb.len hl g
  rw [← hj] at hpush
  simp [t320, hb.ok, hb.c256, hb.c257, hw1, dry_rem _ _ _ _ _ _ (show (256 : Int) ≠ 0 by decide), hm, dry_indexArr arr_346 (show (0 : Int) ≤ (j : Int) by omega) (show (j : Int) < (256 : Nat) by omega)]
  have hok : cellOk H b j = true := hb.ok (by omega)
  have hb1 := hb.setSlot hlt g
  have hb2 := hb1.setSize (r.l.length + 1 : Nat)
  refine wpH_storeW one_3 (by simp) hok (hb.free j) (held_nil _ _) ?_
  have h257 := hb.ok (o := 257) (by decide)
  simp [hb1.c257, hw2, h257, hb.free 257]
  refine ⟨⟨_, head, by simpa using hb2, hpush⟩, (Mod.setH _ _ _ (by simp)).trans (Mod.setH _ _ _ (by simp))⟩

theorem ring_take (h : RingAt H b r) : CallsH Tryz.prog 319 #[ptr b] H fun v H' => v = i64 r.next ∧ RingTo H H' b { r with is := false } := by
  obtain ⟨s, head, hb, hlaid⟩ := h
  apply calls319
  have h258 := hb.ok (o := 258) (by decide)
  have h259 := hb.ok (o := 259) (by decide)
  have hb1 := hb.setIs false
  simp [t319, h258, h259, hb.free 258, hb1.c259]
  exact ⟨⟨s, head, hb1, hlaid⟩, Mod.setH _ _ _ (by simp)⟩

theorem ring_next (h : RingAt H b r) : CallsH Tryz.prog 327 #[ptr b] H fun v H' => v = .tuple #[i64 (if r.is then r.next else 0), .bool r.is] ∧ H' = H := by
  obtain ⟨s, head, hb, hlaid⟩ := h
  apply calls327
  have h258 := hb.ok (o := 258) (by decide)
  have h259 := hb.ok (o := 259) (by decide)
  cases hr : r.is <;> simp [t327, h258, h259, hb.c258, hb.c259, hr]

theorem ring_len (h : RingAt H b r) : CallsH Tryz.prog 278 #[ptr b] H fun v H' => v = i64 (r.l.length + (if r.is then 1 else 0)) ∧ H' = H := by
  obtain ⟨s, head, hb, hlaid⟩ := h
  apply calls278
  have h258 := hb.ok (o := 258) (by decide)
  have h257 := hb.ok (o := 257) (by decide)
  have := hlaid.room
  have hw2 : IntKind.i64.wrap ((r.l.length : Int) + 1) = (r.l.length : Int) + 1 := wrap_i64 _ (by omega) (by omega)
  cases hr : r.is <;> simp [t278, h258, h257, hb.c258, hb.c257, hr, hw2]

theorem Owns.push {e : TypeId} {sz : Nat} {v : Value} {cs : List Value} (h : Owns H sz e v cs) (x : Obj) : Owns (H.push x) sz e v cs := h.of_mod (Mod.push x []) (by simp)

/-- While so many are taken out. -/
def PopInv (H : Heap) (b : Nat) (r : Rg) (n : Nat) (s : List Value) (H1 : Heap) : Prop :=
  ∃ (k : Nat) (v : Value), k ≤ n ∧ s = [v, i64 k] ∧ Owns H1 1 3 v ((r.l.take k).map i64) ∧ (∀ c, blkOf v = some c → H.size ≤ c) ∧ RingTo H H1 b { r with l := r.l.drop k }

/-- The first ones of the row. -/
theorem ring_pop {n : Nat} (h : RingAt H b r) (hn : n ≤ r.l.length) :
    CallsH Tryz.prog 223 #[ptr b, i64 n] H fun v H' => Owns H' 1 3 v ((r.l.take n).map i64) ∧ (∀ c, blkOf v = some c → H.size ≤ c) ∧ RingTo H H' b { r with l := r.l.drop n } := by
  apply calls223
  have hroom : r.l.length ≤ 256 := by obtain ⟨s, hd, _, h2⟩ := h; exact h2.room
  have hlt := h.lt
  simp only [t223]
  refine wpH_makeCap make_33 rfl (by decide) (by omega) (by omega) (by omega) ?_
  have hn0 : ((n : Int)).toNat = n := by omega
  rw [hn0]
  refine wpH_loop (PopInv H b r n) (fun s _ => n - (intOf (sl s 1)).toNat)
    ⟨0, _, by omega, rfl, .inr ⟨H.size, 0, n, List.replicate n (i64 0), rfl, by simp, by simp, by omega, by rw [Blk]; simp, by simp⟩, by simp, ⟨by simpa using h.of_mod (Mod.push _ []) (by simp), Mod.push _ _⟩⟩ ?_
  rintro s H1 ⟨k, v, hk, rfl, ho, hf, hto⟩
  by_cases hkn : k < n
  · obtain ⟨s, head, hb, hlaid⟩ := hto.now
    dsimp only at hb hlaid
    have hh := hlaid.hlt
    have h256 := hb.ok (o := 256) (by decide)
    have h257 := hb.ok (o := 257) (by decide)
    have hhd := hb.ok (o := head) (by omega)
    have hd0 := hlaid.at_ 0 (by simp; omega)
    have hmod : (head + 0) % 256 = head := by omega
    rw [hmod] at hd0
    have hcell := hb.slot hh
    rw [hd0] at hcell
    have hix : dry Tryz.prog (N.indexA 346 (ptr b) (i64 head)).sem = some (.value (.pointer (some ⟨b, head, none⟩))) := by
      have := dry_indexArr (P := Tryz.prog) (b := b) (o := 0) (k := .i64) (i := (head : Int)) arr_346 (by omega) (by omega)
      simpa using this
    obtain ⟨x, hx⟩ : ∃ x, x = (r.l.drop k).getD 0 0 := ⟨_, rfl⟩
    rw [← hx] at hcell
    have hbl := hb.lt
    have hbv : ∀ c, blkOf v = some c → c ≠ b := fun c hc e => by have := hf c hc; omega
    simp [hkn, h256, hb.c256, hix, hhd, hcell]
    have hbp := hb.of_mod (Mod.push (.cells #[i64 x] 3 (0, 0)) []) (by simp)
    have hcellp : cellD (H1.push (.cells #[i64 x] 3 (0, 0))) b head = i64 x := by rw [cellD_push_old hbl]; exact hcell
    refine wpH_buildSliceW (bs_33_1 x) (held_nil _ _) ?_
    have hop := ho.push (.cells #[i64 x] 3 (0, 0))
    have hrd : Reads (H1.push (.cells #[i64 x] 3 (0, 0))) 1 (.slice (some ⟨H1.size, 0, none⟩) 1 1) ([x].map i64) := .inr ⟨H1.size, 0, 1, 1, rfl, by simp, by simp, by simp⟩
    refine wpH_appendW app_33_33 (by decide) (by decide) rfl hop hrd (one_ints _) (by rw [hop.len]; simp [lenV]; omega) ?_
    intro v' H2 hto2
    have hbn2 : b ∉ (blkOf v).toList := by
      intro hm; have : blkOf v = some b := by simpa using hm
      exact hbv b this rfl
    have hb2 := hbp.of_mod hto2.mod hbn2
    have hcell2 : cellD H2 b head = i64 x := by
      have := hb2.slot hh
      rw [this, hd0, hx]
    refine ⟨held_nil _ _, ?_⟩
    have hw1 : IntKind.i64.wrap ((head : Int) + 1) = (head : Int) + 1 := wrap_i64 _ (by omega) (by omega)
    have hm : ((head : Int) + 1).tmod 256 = (((head + 1) % 256 : Nat) : Int) := by rw [Int.tmod_eq_emod_of_nonneg (by omega)]; omega
    obtain ⟨j, hj⟩ : ∃ j, j = (head + 1) % 256 := ⟨_, rfl⟩
    rw [← hj] at hm
    have hb3 := hb2.setHead (j : Nat)
    obtain ⟨sz, hsz⟩ : ∃ sz : Nat, sz = r.l.length - k := ⟨_, rfl⟩
    have hszl : ((r.l.drop k).length : Int) = sz := by simp; omega
    rw [hszl] at hb2 hb3
    have hw2 : IntKind.i64.wrap ((sz : Int) - 1) = (sz : Int) - 1 := wrap_i64 _ (by omega) (by omega)
    have hw3 : IntKind.i64.wrap ((k : Int) + 1) = ((k + 1 : Nat) : Int) := by rw [wrap_i64 _ (by omega) (by omega)]; simp
    have hb4 := hb3.setSize ((sz : Int) - 1)
    have g256 := hb2.ok (o := 256) (by decide)
    have g257 := hb2.ok (o := 257) (by decide)
    simp [g256, g257, hb2.c256, hb2.free, hw1, dry_rem _ _ _ _ _ _ (show (256 : Int) ≠ 0 by decide), hm, hb3.c257, hw2, hw3]
    have hdl := hlaid.drop1 (by simp; omega)
    rw [← hj] at hdl
    have hmodT : Mod H2 (setH (setH H2 b 256 (i64 (j : Nat))) b 257 (i64 ((sz : Int) - 1))) [b] := (Mod.setH _ _ _ (by simp)).trans (Mod.setH _ _ _ (by simp))
    have hblk' : ∀ c, blkOf v' = some c → H.size ≤ c := fun c hc => by
      rcases hto2.blk with hh2 | hh2
      · rw [hh2] at hc; exact hf c hc
      · rw [hh2] at hc; simp at hc; have := hto.mod.size; omega
    refine ⟨⟨k + 1, v', by omega, by simp, ?_, hblk', ?_⟩, ?_⟩
    · have h1 := hto2.owns
      rw [← List.map_append] at h1
      have e : r.l.take k ++ [x] = r.l.take (k + 1) := by
        rw [List.take_succ_eq_append_getElem (by omega), hx]
        simp [show k < r.l.length by omega]
      rw [e] at h1
      refine h1.of_mod hmodT fun c hc => ?_
      have := hblk' c hc
      simp; omega
    · refine ⟨⟨s, j, ?_, ?_⟩, ?_⟩
      · have e : (((r.l.drop (k + 1)).length : Nat) : Int) = (sz : Int) - 1 := by simp; omega
        rw [e]
        exact hb4
      · simpa [List.tail_drop] using hdl
      · refine ((hto.mod.behind (Mod.push _ []) (by simp)).behind hto2.mod fun c hc hlt' => ?_).trans hmodT
        have := hf c (by simpa using hc)
        omega
    · simp [intOf]; omega
  · have hkn : k = n := by omega
    subst hkn
    simp
    exact ⟨by simpa using ho, hf, hto⟩
end
end Go.Tr
