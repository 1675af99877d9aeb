/- Packages timer, poll, source: how they lie in the heap, and New. Conditions: 1 to 64 processors. -/
import Derived.Test.YtgjafaheglnheaaGreatDoorHsCBatch
import Derived.Test.YtgjafaheglnheaaGreatDoorHsTB
set_option maxRecDepth 20000
namespace Go.Tr
open Go.Proofs (Tryz.prog)

/-- A map that lies in the heap: its keys and values, in the order in which they came. -/
def MapIs (H : Heap) (b : Nat) (kvs : List (Value × Value)) : Prop :=
  ∃ es clock, H[b]? = some (.map es clock) ∧ es.toList.map (fun e => (e.key, e.val)) = kvs ∧ ∀ e ∈ es, e.born < clock
theorem MapIs.of_mod {H H' : Heap} {b : Nat} {kvs : List (Value × Value)} (h : MapIs H b kvs) {S : List Nat} (m : Mod H H' S) (hb : b ∉ S) : MapIs H' b kvs := by
  obtain ⟨es, c, h1, h2, h3⟩ := h
  exact ⟨es, c, m.get h1 hb, h2, h3⟩
theorem MapIs.lt {H : Heap} {b : Nat} {kvs : List (Value × Value)} (h : MapIs H b kvs) : b < H.size := by
  obtain ⟨es, c, h1, _⟩ := h
  exact blk_lt h1

section
variable {P : Program} {Q : List Value → Heap → Prop} {R : Option Nat → List Value → Heap → Prop} {H : Heap}
@[simp] theorem wpH_mkMap {t : TypeId} {k : Value → T} : wpH P Q (.op [] (.mkMap t none) k) R H = wpH P Q (k (.map (some H.size))) R (H.push (.map #[] 0)) :=
  op_value_eq fun w hw => by subst hw; simp [N.sem, Instr.makeMap, newObj]; rfl
end

/-- An entry of a heap of timers. -/
structure En where
  w : Int
  o : Int
  g : Int
def En.cs (e : En) : List Value := [i64 e.w, u64 e.o, i64 e.g]
/-- A descriptor: who, does it wait, is it ready. -/
structure Fd where
  fd : Int
  g : Int
  waits : Bool
  ready : Bool
def Fd.kv (f : Fd) : Value × Value := (.int .u16 f.fd, .agg #[i64 f.g, .bool f.waits, .bool f.ready])

/-- A source. -/
structure Src where
  now : Int
  waits : Int
  order : Int
  hs : List (List En)
  has : List Int
  fds : List Fd
  who : List (Int × Int)

/-- Where it lies. -/
structure SrcL where
  b : Nat
  t : Nat
  p : Nat
  l : Nat
  hm : Nat
  fm : Nat
  wm : Nat
  hv : List Value

structure SrcAt (H : Heap) (L : SrcL) (x : Src) : Prop where
  hdr : Blk H L.b #[i64 x.now, ptr L.t, ptr L.p, i64 x.waits] 238
  tim : Blk H L.t #[.slice (some ⟨L.l, 0, none⟩) x.hs.length x.hs.length, u64 x.order, .map (some L.hm)] 315
  row : Blk H L.l L.hv.toArray 381
  len : L.hv.length = x.hs.length
  owns : ∀ i, i < x.hs.length → Owns H 3 413 (L.hv.getD i undef) ((x.hs.getD i []).flatMap En.cs)
  apart : ∀ i j c, i < x.hs.length → j < x.hs.length → blkOf (L.hv.getD i undef) = some c → blkOf (L.hv.getD j undef) = some c → i = j
  pol : Blk H L.p #[.map (some L.fm), .map (some L.wm)] 320
  has : MapIs H L.hm (x.has.map fun g => (i64 g, .agg #[]))
  fds : MapIs H L.fm (x.fds.map Fd.kv)
  who : MapIs H L.wm (x.who.map fun p => (i64 p.1, .int .u16 p.2))
  nm : L.hm ≠ L.fm ∧ L.hm ≠ L.wm ∧ L.fm ≠ L.wm

/-- The blocks of it. -/
def SrcL.foot (L : SrcL) : List Nat := [L.b, L.t, L.p, L.l, L.hm, L.fm, L.wm] ++ L.hv.flatMap fun v => (blkOf v).toList

theorem SrcL.mem_hv {L : SrcL} {i c : Nat} (hi : i < L.hv.length) (h : blkOf (L.hv.getD i undef) = some c) : c ∈ L.foot := by
  unfold SrcL.foot
  refine List.mem_append_right _ (List.mem_flatMap.2 ⟨L.hv.getD i undef, ?_, by rw [h]; simp⟩)
  rw [List.getD_eq_getElem?_getD, List.getElem?_eq_getElem hi]
  exact List.getElem_mem hi

section
variable {H H' : Heap} {L : SrcL} {x : Src}
theorem SrcAt.of_mod (h : SrcAt H L x) {S : List Nat} (m : Mod H H' S) (hs : ∀ c ∈ L.foot, c ∉ S) : SrcAt H' L x :=
  ⟨m.get h.hdr (hs _ (by simp [SrcL.foot])), m.get h.tim (hs _ (by simp [SrcL.foot])), m.get h.row (hs _ (by simp [SrcL.foot])), h.len,
    fun i hi => (h.owns i hi).of_mod m fun c hc => hs _ (SrcL.mem_hv (by rw [h.len]; exact hi) hc), h.apart, m.get h.pol (hs _ (by simp [SrcL.foot])),
    h.has.of_mod m (hs _ (by simp [SrcL.foot])), h.fds.of_mod m (hs _ (by simp [SrcL.foot])), h.who.of_mod m (hs _ (by simp [SrcL.foot])), h.nm⟩
theorem SrcAt.lt (h : SrcAt H L x) : ∀ c ∈ L.foot, c < H.size := by
  intro c hc
  simp [SrcL.foot] at hc
  rcases hc with rfl | rfl | rfl | rfl | rfl | rfl | rfl | ⟨v, hv, hc⟩
  · exact blk_lt h.hdr
  · exact blk_lt h.tim
  · exact blk_lt h.pol
  · exact blk_lt h.row
  · exact h.has.lt
  · exact h.fds.lt
  · exact h.who.lt
  · obtain ⟨i, hi, rfl⟩ := List.mem_iff_getElem.1 hv
    refine (h.owns i (by rw [← h.len]; exact hi)).lt ?_
    rw [List.getD_eq_getElem?_getD, List.getElem?_eq_getElem hi]
    exact hc

/-- A source at first. -/
def Src.fresh (n : Nat) : Src := ⟨0, 0, 0, List.replicate n [], [], [], []⟩

def TimerNew (H : Heap) (p : Int) (u : Value) (H' : Heap) : Prop :=
    ∃ t l hm, u = ptr t ∧ Blk H' t #[.slice (some ⟨l, 0, none⟩) p.toNat p.toNat, u64 0, .map (some hm)] 315 ∧ Blk H' l (List.replicate p.toNat (.slice none 0 0)).toArray 381 ∧ MapIs H' hm [] ∧
      Mod H H' [] ∧ H.size ≤ t ∧ H.size ≤ l ∧ H.size ≤ hm
def PollNew (H : Heap) (u : Value) (H' : Heap) : Prop :=
    ∃ p fm wm, u = ptr p ∧ Blk H' p #[.map (some fm), .map (some wm)] 320 ∧ MapIs H' fm [] ∧ MapIs H' wm [] ∧ fm ≠ wm ∧ Mod H H' [] ∧ H.size ≤ p ∧ H.size ≤ fm ∧ H.size ≤ wm
def SourceNew (H : Heap) (p : Int) (u : Value) (H' : Heap) : Prop := ∃ L, u = ptr L.b ∧ SrcAt H' L (Src.fresh p.toNat) ∧ Mod H H' [] ∧ ∀ c ∈ L.foot, H.size ≤ c

theorem timer_new {p : Int} (h1 : 1 ≤ p) (h2 : p ≤ 64) : CallsH Tryz.prog 212 #[i64 p] H (TimerNew H p) := by
  apply calls212
  have e1 : (if 1 < p then p else 1) = p := by split <;> omega
  have e2 : (if 64 < p then 64 else p) = p := by split <;> omega
  simp only [t212, wpH_pure_eq]
  simp [e1, e2]
  refine wpH_make make_312 rfl (by decide) (by omega) (by omega) ?_
  simp [Value.cells]
  unfold TimerNew
  refine ⟨_, _, _, rfl, by unfold Blk; rw [Array.getElem?_push, if_pos (by simp)], ?_, ?_, ?_, by omega, Nat.le_refl _, by omega⟩
  · unfold Blk; rw [get_push_lt (by simp; omega), get_push_lt (by simp)]; simp
  · exact ⟨#[], 0, get_push_old (by rw [Array.getElem?_push, if_pos (by simp)]), rfl, by simp⟩
  · exact ((Mod.push _ _).trans (Mod.push _ _)).trans (Mod.push _ _)

theorem poll_new : CallsH Tryz.prog 213 #[] H (PollNew H) := by
  apply calls213
  simp [t213, Value.cells]
  unfold PollNew
  refine ⟨_, _, _, rfl, by unfold Blk; rw [Array.getElem?_push, if_pos (by simp)], ?_, ?_, ?_, ?_, by omega, Nat.le_refl _, by omega⟩
  · exact ⟨#[], 0, get_push_old (get_push_old (get_push_new _ _)), rfl, by simp⟩
  · exact ⟨#[], 0, get_push_old (by rw [Array.getElem?_push, if_pos (by simp)]), rfl, by simp⟩
  · omega
  · exact ((Mod.push _ _).trans (Mod.push _ _)).trans (Mod.push _ _)

theorem source_new {p : Int} (h1 : 1 ≤ p) (h2 : p ≤ 64) : CallsH Tryz.prog 153 #[i64 p] H (SourceNew H p) := by
  apply calls153
  simp [t153]
  refine (timer_new h1 h2).mono ?_
  rintro _ H1 ⟨t, l, hm, rfl, ht, hl, hmap, m1, l1, l2, l3⟩
  refine poll_new.mono ?_
  rintro _ H2 ⟨q, fm, wm, rfl, hq, hfm, hwm, hne, m2, l4, l5, l6⟩
  simp [Value.cells]
  unfold SourceNew
  have hmlt := hmap.lt
  have s1 := m1.size
  have s2 := m2.size
  have hmf : hm ≠ fm := by omega
  have hmw : hm ≠ wm := by omega
  refine ⟨⟨H2.size, t, q, l, hm, fm, wm, List.replicate p.toNat (.slice none 0 0)⟩, rfl, ⟨?_, ?_, ?_, by simp [Src.fresh], ?_, ?_, ?_, ?_, ?_, ?_, ⟨hmf, hmw, hne⟩⟩, (m1.trans m2).trans (Mod.push _ _), ?_⟩
  · unfold Blk; simp [Src.fresh]
  · have := get_push_old (x := .cells #[.int .i64 0, ptr t, ptr q, .int .i64 0] 238 (0, 0)) (m2.get ht (by simp))
    simpa [Blk, Src.fresh] using this
  · exact get_push_old (m2.get hl (by simp))
  · intro i hi
    simp [Src.fresh] at hi
    refine .inl ⟨by simp [hi], by simp [Src.fresh, hi]⟩
  · intro i j c hi hj hc
    simp [Src.fresh] at hi
    simp [hi] at hc
  · exact get_push_old hq
  · exact (hmap.of_mod m2 (by simp)).of_mod (Mod.push _ []) (by simp)
  · exact hfm.of_mod (Mod.push _ []) (by simp)
  · exact hwm.of_mod (Mod.push _ []) (by simp)
  · intro c hc
    have hm0 : H.size ≤ H2.size := by omega
    simp [SrcL.foot, List.mem_flatMap] at hc
    rcases hc with rfl | rfl | rfl | rfl | rfl | rfl | rfl | hc
    all_goals first | omega | skip
    obtain ⟨a, ⟨_, rfl⟩, hc⟩ := hc
    cases hc
end

end Go.Tr
