/- Packages event, mach, status, section: the contracts of the functions that the world calls. Conditions: the program's tables are laid; memory and rows lie in the heap as told. -/
import Derived.Test.YtgjafaheglnheaaGreatDoorHsCGlob
set_option maxRecDepth 20000
namespace Go.Tr
open Go.Proofs (Tryz.prog)

/-- An event: its kind, goroutine, machine, processor, value. -/
structure Ev where
  k : Int
  g : Int
  m : Int
  p : Int
  v : Int
def Ev.cs (e : Ev) : List Value := [i64 e.k, i64 e.g, i64 e.m, i64 e.p, i64 e.v]
abbrev Ev.V (e : Ev) : Value := .agg #[i64 e.k, i64 e.g, i64 e.m, i64 e.p, i64 e.v]
def Ev.val (e : Ev) : Bool := if e.k = 5 then true else if e.k = 6 then decide (0 ≤ e.v) && decide (e.v < 65536) else decide (e.v = 0)
def Ev.right (e : Ev) : Bool := decide (0 ≤ e.k ∧ e.k < 8) && decide (0 ≤ e.g ∧ e.g < 4096) && decide (-1 ≤ e.m ∧ e.m < 128) && decide (-1 ≤ e.p ∧ e.p < 64) && e.val

section
variable {H : Heap} {gb : Nat}

theorem event_value (e : Ev) : CallsH Tryz.prog 263 #[e.V] H fun u H' => u = .bool e.val ∧ Mod H H' [] := by
  apply calls263
  simp [t263, Value.cells, Ev.val]
  by_cases h5 : e.k = 5
  · simp [h5]; exact Mod.push _ _
  · by_cases h6 : e.k = 6
    · simp [h6]
      by_cases h0 : 0 ≤ e.v <;> simp [h0] <;> exact Mod.push _ _
    · simp [h5, h6]
      exact ⟨by by_cases h : e.v = 0 <;> simp [h], Mod.push _ _⟩

theorem event_right (e : Ev) (h : Glob gb H) : CallsH Tryz.prog 218 #[e.V] H fun u H' => u = .bool e.right ∧ Mod H H' [] := by
  apply calls218
  simp [t218, Value.cells]
  refine (event_of (h.push _)).mono ?_
  rintro _ H1 ⟨⟨n, f, t, rfl, -, -⟩, hm⟩
  have hb := hm.get (get_push_new H _) (by simp)
  have hm1 : Mod H H1 [] := (Mod.push _ _).trans hm
  simp
  rw [wpH_alloc zero_251]
  refine wpH_storeAgg agg_251 rfl (by simp) (by simp [Value.cells]) (by simp) ?_
  simp [setRowH, Value.cells, setH_push_new]
  have hlt := blk_lt hb
  have hb2 := get_push_old (x := .cells #[.string n, u64 f, u64 t] 251 (0, 0)) hb
  have hm2 : Mod H (H1.push (.cells #[.string n, u64 f, u64 t] 251 (0, 0))) [] := hm1.trans (Mod.push _ _)
  unfold Ev.right
  by_cases hk : 0 ≤ e.k ∧ e.k < 8
  · by_cases h1 : 0 ≤ e.g
    · by_cases h2 : e.g < 4096
      · by_cases h3 : -1 ≤ e.m
        · by_cases h4 : e.m < 128
          · by_cases h5 : -1 ≤ e.p
            · by_cases h6 : e.p < 64
              · simp [hk, h1, h2, h3, h4, h5, h6, blk_ok hb2, blk_cell hb2]
                rw [wpH_loadAgg_eq agg_43 (by rw [blk_rowOk hb2]; simp [Nat.ble]), blk_row hb2]
                simp
                refine (event_value e).mono ?_
                rintro _ H2 ⟨rfl, hm3⟩
                simp
                exact hm2.trans hm3
              · simp [hk, h1, h2, h3, h4, h5, h6, blk_ok hb2, blk_cell hb2]; exact hm2
            · simp [hk, h1, h2, h3, h4, h5, blk_ok hb2, blk_cell hb2]; exact hm2
          · simp [hk, h1, h2, h3, h4, blk_ok hb2, blk_cell hb2]; exact hm2
        · simp [hk, h1, h2, h3, blk_ok hb2, blk_cell hb2]; exact hm2
      · simp [hk, h1, h2, blk_ok hb2, blk_cell hb2]; exact hm2
    · simp [hk, h1, blk_ok hb2, blk_cell hb2]; exact hm2
  · simp [hk, blk_ok hb2, blk_cell hb2]; exact hm2

/-- A cell that holds a log of its own. -/
structure LogAt (H : Heap) (b o : Nat) (v : Value) (l : List Ev) : Prop where
  ok : cellOk H b o = true
  free : cellFree H b o = true
  cell : cellD H b o = v
  owns : Owns H 5 43 v (l.flatMap Ev.cs)
  ne : blkOf v ≠ some b

theorem log_add_no (e : Ev) {b o : Nat} (h : Glob gb H) (hr : e.right = false) :
    CallsH Tryz.prog 160 #[.pointer (some ⟨b, o, none⟩), e.V] H fun u H' => u = .bool false ∧ Mod H H' [] := by
  apply calls160
  simp [t160, Value.cells]
  rw [wpH_loadAgg_eq agg_43 (by simp)]
  simp
  refine (event_right e (h.push _)).mono ?_
  rintro _ H1 ⟨rfl, hm⟩
  simp [hr]
  exact (Mod.push _ _).trans hm

theorem flat_len (l : List Ev) : (l.flatMap Ev.cs).length = l.length * 5 := by
  induction l with
  | nil => rfl
  | cons e l ih => simp [ih, Ev.cs]; omega

theorem log_add {e : Ev} {b o : Nat} {v : Value} {l : List Ev} (h : Glob gb H) (hl : LogAt H b o v l) (hr : e.right = true) (hlen : l.length ≤ 2 ^ 34) :
    CallsH Tryz.prog 160 #[.pointer (some ⟨b, o, none⟩), e.V] H fun u H' => u = .bool true ∧ ∃ v', LogAt H' b o v' (l ++ [e]) ∧ H'[b]? = (setH H b o v')[b]? ∧ Mod H H' (b :: (blkOf v).toList) ∧
      (blkOf v' = blkOf v ∨ ∃ nb, blkOf v' = some nb ∧ H.size ≤ nb) := by
  apply calls160
  simp [t160, Value.cells]
  rw [wpH_loadAgg_eq agg_43 (by simp)]
  simp
  refine (event_right e (h.push _)).mono ?_
  rintro _ H1 ⟨rfl, hm⟩
  have hm1 : Mod H H1 [] := (Mod.push _ _).trans hm
  have hb := hm.get (get_push_new H _) (by simp)
  have hbs := blk_lt hb
  have hlt : b < H.size := cellOk_lt hl.ok
  have e1 := hm1.old b hlt (by simp)
  have hok1 : cellOk H1 b o = true := by unfold cellOk; rw [e1]; exact hl.ok
  have hfr1 : cellFree H1 b o = true := by unfold cellFree; rw [e1]; exact hl.free
  have hc1 : cellD H1 b o = v := by unfold cellD; rw [e1]; exact hl.cell
  simp [hr, hok1, hc1]
  rw [wpH_loadAgg_eq agg_43 (by rw [blk_rowOk hb]; simp [Nat.ble]), blk_row hb]
  simp
  have hbo : b ≠ H.size := by omega
  have held : ∀ K : Heap, cellOk K b o = true → cellD K b o = v → Held Tryz.prog [(N.load 60 (.pointer (some ⟨b, o, none⟩)), v)] K := fun K h2 h3 =>
    held_cons_load one_60 h2 h3 (held_nil _ _)
  have hb2 := get_push_old (x := .cells #[i64 e.k, i64 e.g, i64 e.m, i64 e.p, i64 e.v] 43 (0, 0)) hb
  refine wpH_buildSliceW (bs_60_1 _ _ _ _ _) (held _ (by rw [cellOk_push_old (by omega)]; exact hok1) (by rw [cellD_push_old (by omega)]; exact hc1)) ?_
  have hlv : lenV v = l.length := by
    have h5 := flat_len l
    rcases hl.owns with ⟨rfl, h⟩ | ⟨b', n, c, l', rfl, h, _⟩
    · rw [h] at h5; simp [lenV] at h5 ⊢; omega
    · simp [lenV]; omega
  have hno : ∀ c, blkOf v = some c → c < H.size := fun c hc => hl.owns.lt hc
  refine wpH_appendW (ys := e.cs) app_60_60 (by decide) (by decide) rfl ((hl.owns.of_mod hm1 (by simp)).of_mod (Mod.push _ []) (by simp)) ?_ (by simp [Ev.cs]) (by rw [hlv]; simp [lenV]; omega) ?_
  · refine .inr ⟨H1.size, 0, 1, 1, rfl, rfl, ?_, ?_⟩
    · rw [blk_rowOk (get_push_new _ _)]; simp [Nat.ble]
    · rw [blk_row (get_push_new _ _)]; simp [Ev.cs]
  intro v' H2 hto
  have hbn : b ∉ (blkOf v).toList := by simpa using hl.ne
  have hsn : H.size ∉ (blkOf v).toList := by simp; intro hh; have := hno _ hh; omega
  have e2 : H2[b]? = H[b]? := (hto.mod.old b (by simp; omega) hbn).trans ((get_push_lt (by omega)).trans e1)
  have hb3 := hto.mod.get hb2 hsn
  have hok2 : cellOk H2 b o = true := by unfold cellOk; rw [e2]; exact hl.ok
  have hfr2 : cellFree H2 b o = true := by unfold cellFree; rw [e2]; exact hl.free
  have hc2 : cellD H2 b o = v := by unfold cellD; rw [e2]; exact hl.cell
  refine ⟨held_nil _ _, ?_⟩
  have hone : oneV v' = true := by obtain ⟨a, n, c, rfl⟩ := hto.owns.shape; simp
  have hne' : blkOf v' ≠ some b := by
    rcases hto.blk with hh | hh
    · rw [hh]; exact hl.ne
    · rw [hh]; simp; omega
  simp
  simp [hone, hok2, hfr2]
  refine ⟨v', ⟨by simpa using hok2, by simpa using hfr2, by simp [hok2], ?_, hne'⟩, setH_congr e2, ?_, ?_⟩
  · have := hto.owns
    rw [show l.flatMap Ev.cs ++ e.cs = (l ++ [e]).flatMap Ev.cs by simp] at this
    exact this.of_mod (Mod.setH b o v' (S := [b]) (by simp)) (by intro c hc; simp; intro e; exact hne' (by rw [hc, e]))
  · exact ((hm1.mono (by simp)).trans ((Mod.push _ _).trans (hto.mod.mono (by simp; intro k hk; exact .inr hk)))).trans (Mod.setH _ _ _ (by simp))
  · rcases hto.blk with hh | hh
    · exact .inl hh
    · exact .inr ⟨_, hh, by simp; omega⟩
end

end Go.Tr
