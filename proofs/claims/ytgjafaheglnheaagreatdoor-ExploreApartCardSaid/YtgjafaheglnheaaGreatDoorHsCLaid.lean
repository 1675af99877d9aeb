/- What the rows' condition on package-level variables gives: the tables lie in the heap as the walks want them. Condition: the row's own list of variables is met. -/
import Derived.Test.YtgjafaheglnheaaGreatDoorTie
import Derived.Test.YtgjafaheglnheaaGreatDoorCards
import Derived.ProofKit
import Derived.LaidMore
import Derived.OpenShut
import Derived.Stop.Joined
import Derived.Deep.Strs
import Derived.Test.YtgjafaheglnheaaGreatDoorHsCGlob
namespace Go.Proofs.YtgjafaheglnheaaGreatDoor
open Go Go.Tr Go.ChangeShapes Go.WideShapes Go.ChangeAt Go.RowKit
set_option maxRecDepth 100000

theorem own : ownKnob Tryz.prog.godebug = Option.none := by kernel_rfl
theorem gTz : Tryz.prog.globalNamed "math/bits.deBruijn64tab" = some 5 := by kernel_rfl
theorem gNext : Tryz.prog.globalNamed "hostler/status.next" = some 0 := by kernel_rfl
theorem gAll : Tryz.prog.globalNamed "hostler/event.all" = some 1 := by kernel_rfl
theorem gPlaces : Tryz.prog.globalNamed "hostler/mach.places" = some 2 := by kernel_rfl
theorem tTz : (Tryz.prog.globals[5]?).map (·.type) = some 490 := by kernel_rfl
theorem tNext : (Tryz.prog.globals[0]?).map (·.type) = some 255 := by kernel_rfl
theorem tAll : (Tryz.prog.globals[1]?).map (·.type) = some 334 := by kernel_rfl
theorem tPlaces : (Tryz.prog.globals[2]?).map (·.type) = some 402 := by kernel_rfl
theorem c1 : Tryz.prog.cellsOf 5 = 1 ∧ Tryz.prog.cellsOf 210 = 1 ∧ Tryz.prog.cellsOf 82 = 1 ∧ Tryz.prog.cellsOf 9 = 1 ∧ Tryz.prog.cellsOf 251 = 3 ∧ Tryz.prog.cellsOf 366 = 2 := by
  refine ⟨?_, ?_, ?_, ?_, ?_, ?_⟩ <;> kernel_rfl
theorem c2 : Tryz.prog.cellsOf 490 = 64 ∧ Tryz.prog.cellsOf 255 = 7 ∧ Tryz.prog.cellsOf 334 = 24 ∧ Tryz.prog.cellsOf 402 = 62 := by
  refine ⟨?_, ?_, ?_, ?_⟩ <;> kernel_rfl
theorem u490 : Tryz.prog.underlying 490 = some (.array 64 5) := by kernel_rfl
theorem u5 : Tryz.prog.underlying 5 = some (.int .u8) := by kernel_rfl
theorem u255 : Tryz.prog.underlying 255 = some (.array 7 210) := by kernel_rfl
theorem u210 : Tryz.prog.underlying 210 = some (.slice 82) := by kernel_rfl
theorem u82 : Tryz.prog.underlying 82 = some (.int .u64) := by kernel_rfl
theorem u334 : Tryz.prog.underlying 334 = some (.array 8 251) := by kernel_rfl
theorem u402 : Tryz.prog.underlying 402 = some (.array 31 366) := by kernel_rfl
theorem u9 : Tryz.prog.underlying 9 = some .string := by kernel_rfl

theorem blk_of_var {P : Program} {W : World} {n : String} {g : Nat} {cs : Array Value} (hg : P.globalNamed n = some g) (hv : World.var? P W n = some cs) : ∃ e f, W.heap[g]? = some (.cells cs e f) := by
  simp only [World.var?, hg, Option.bind_some] at hv
  split at hv
  · rename_i c e f hb
    cases hv
    exact ⟨e, f, hb⟩
  · cases hv

/-- One element of an array of numbers. -/
theorem arr_int {W : World} {t e : TypeId} {n k : Nat} {kd : IntKind} {cs : List Value} {fuel : Nat} {d : DataW Unit} {p : List MemPlace} {ds : List (DataW Unit)} (ht : Tryz.prog.underlying t = some (.array n e)) (he : Tryz.prog.underlying e = some (.int kd))
    (hc : Tryz.prog.cellsOf e = 1) (hd : DataW.trod (fun _ => ()) Tryz.prog W 0 (fun _ => true) false fuel t cs = some (d, p)) (hds : d = .agg ds) (hk : k < n) : ∃ m, cs[k]? = some (.int kd m) ∧ ds[k]? = some (.lit (.int kd m)) := by
  obtain ⟨xs, m, -, hx, hl, hn, hel⟩ := DataW.trod_array ht hd
  subst hds
  simp only [Prod.mk.injEq, DataW.agg.injEq] at hx
  have h1 := hel k hk
  rw [hc, Nat.mul_one] at h1
  have h2 : xs[k]? = some xs[k] := by simp [hn, hk]
  rw [h2] at h1
  obtain ⟨q, e1, e2, -⟩ := DataW.trod_int he h1
  refine ⟨q, ?_, ?_⟩
  · have : (cs.drop k).head? = some (.int kd q) := by
      have := congrArg List.head? e1
      rw [List.head?_take] at this
      simpa using this
    simpa [List.head?_drop] using this
  · rw [hx.1]; simp [h2, e2]

theorem tz_of {W : World} {cs : Array Value} {fuel : Nat} {p : List MemPlace} (hv : World.var? Tryz.prog W "math/bits.deBruijn64tab" = some cs)
    (hd : DataW.trod (fun _ => ()) Tryz.prog W 0 (fun _ => true) false fuel 490 cs.toList = some (Rows.laid_math_bits_deBruijn64tab, p)) : ∀ k, k < 64 → cellOk W.heap 5 k = true ∧ cellD W.heap 5 k = .int .u8 (tzTab.getD k 0 : Nat) := by
  intro k hk
  obtain ⟨e, f, hb⟩ := blk_of_var gTz hv
  obtain ⟨m, h1, h2⟩ := arr_int (ds := tzTab.map fun k => .lit (.int .u8 (k : Nat))) u490 u5 c1.1 hd rfl hk
  have hsz : k < cs.size := by
    have : k < cs.toList.length := by
      rcases Nat.lt_or_ge k cs.toList.length with h | h
      · exact h
      · rw [List.getElem?_eq_none h] at h1; cases h1
    simpa using this
  have hlen : tzTab.length = 64 := rfl
  refine ⟨by rw [blk_ok hb]; exact Nat.ble_eq_true_of_le hsz, ?_⟩
  rw [blk_cell hb]
  have h3 : cs[k]? = some (.int .u8 m) := by rw [← Array.getElem?_toList]; exact h1
  simp [h3]
  simp [show k < tzTab.length by rw [hlen]; exact hk] at h2
  simp [show k < tzTab.length by rw [hlen]; exact hk, h2]

/-- One element of an array of structs: its cells. -/
theorem arr_part {W : World} {t e : TypeId} {n k : Nat} {cs : List Value} {fuel : Nat} {d : DataW Unit} {p : List MemPlace} {ds : List (DataW Unit)} (ht : Tryz.prog.underlying t = some (.array n e))
    (hd : DataW.trod (fun _ => ()) Tryz.prog W 0 (fun _ => true) false fuel t cs = some (d, p)) (hds : d = .agg ds) (hk : k < n) :
    cs.length = Tryz.prog.cellsOf t ∧ ∃ m y, DataW.trod (fun _ => ()) Tryz.prog W 0 (fun _ => true) false m e (List.take (Tryz.prog.cellsOf e) (List.drop (k * Tryz.prog.cellsOf e) cs)) = some y ∧ ds[k]? = some y.1 := by
  obtain ⟨xs, m, -, hx, hl, hn, hel⟩ := DataW.trod_array ht hd
  subst hds
  simp only [Prod.mk.injEq, DataW.agg.injEq] at hx
  have h1 := hel k hk
  have h2 : xs[k]? = some xs[k] := by simp [hn, hk]
  rw [h2] at h1
  exact ⟨hl, m, xs[k], h1, by rw [hx.1]; simp [h2]⟩

theorem take1 {cs : List Value} {k : Nat} {v : Value} (h : List.take 1 (List.drop k cs) = [v]) : cs[k]? = some v := by
  have := congrArg List.head? h
  rw [List.head?_take] at this
  simpa [List.head?_drop] using this

theorem next_of {W : World} {cs : Array Value} {fuel : Nat} {p : List MemPlace} (hv : World.var? Tryz.prog W "hostler/status.next" = some cs)
    (hd : DataW.trod (fun _ => ()) Tryz.prog W 0 (fun _ => true) false fuel 255 cs.toList = some (Rows.laid_hostler_status_next, p)) : ∀ s, s < 7 → cellOk W.heap 0 s = true ∧ ∃ a n c, cellD W.heap 0 s = .slice a n c ∧ n = (nextOf s).length ∧
    ∀ k, k < (nextOf s).length → ∃ b o, a = some ⟨b, o, Option.none⟩ ∧ b < W.heap.size ∧ cellOk W.heap b (o + k) = true ∧ cellD W.heap b (o + k) = u64 ((nextOf s).getD k 0) := by
  intro s hs
  obtain ⟨e, f, hb⟩ := blk_of_var gNext hv
  obtain ⟨hl, m, y, h1, h2⟩ := arr_part (ds := (List.range 7).map fun s => .slice ((nextOf s).map fun x => .lit (.int .u64 x)) []) u255 hd rfl hs
  rw [c1.2.1, Nat.mul_one] at h1
  rw [c2.2.1] at hl
  have hsz : s < cs.size := by simp at hl; omega
  simp [hs] at h2
  rcases DataW.trod_slice u210 h1 with ⟨-, hy⟩ | ⟨a, len, cap, elems, rest, q, -, hcs, hy, -, h3, -, h5, h6, -⟩
  · rw [hy] at h2; cases h2
  · have hcell := take1 hcs
    have h3' : cs[s]? = some (.slice (some a) len cap) := by rw [← Array.getElem?_toList]; exact hcell
    rw [hy] at h2
    simp only [DataW.slice.injEq] at h2
    refine ⟨by rw [blk_ok hb]; exact Nat.ble_eq_true_of_le hsz, some a, len, cap, by rw [blk_cell hb]; simp [h3'], ?_, fun k hk => ?_⟩
    · have := congrArg List.length h2.1
      simp at this; omega
    · have hlen : len = (nextOf s).length := by
        have := congrArg List.length h2.1
        simp at this; omega
      have h7 := h6 k (by omega)
      rw [c1.2.2.1, Nat.mul_one] at h7
      have h8 : elems[k]? = some elems[k] := by simp [h5, hlen, hk]
      rw [h8] at h7
      obtain ⟨l, hl1, hl2⟩ := Option.bind_eq_some_iff.1 h7
      obtain ⟨z, e1, e2, -⟩ := DataW.trod_int u82 hl2
      subst e1
      have hcl : W.cell? (a.add k) = some (.int .u64 z) := by
        unfold World.cells? at hl1
        simp at hl1
        cases hc : W.cell? ((a.add k).add 0) with
        | none => simp [hc] at hl1
        | some v => simp [hc] at hl1; rw [← hl1, ← hc]; rfl
      have hz : z = (nextOf s).getD k 0 := by
        have := congrArg (fun l => l[k]?) h2.1
        simp [hk, h8, e2] at this
        simp [hk, this]
      -- where it lies
      have hspot : a.spot = Option.none := by
        have h9 := h6 0 (by omega)
        have h10 : elems[0]? = some elems[0] := by simp [h5, hlen]
        rw [c1.2.2.1, h10] at h9
        obtain ⟨l, hl1, -⟩ := Option.bind_eq_some_iff.1 h9
        unfold World.cells? at hl1
        simp at hl1
        cases hc : W.cell? a with
        | none => simp [Addr.add, hc] at hl1
        | some v =>
          unfold World.cell? at hc
          split at hc
          · split at hc
            · cases hc
            · rename_i hsp; simpa using hsp
          · cases hc
      obtain ⟨b, o, sp⟩ := a
      simp only at hspot
      subst hspot
      rw [add_none] at hcl
      unfold World.cell? at hcl
      split at hcl
      · rename_i c t fr hbb
        simp at hcl
        obtain ⟨hok, hcv⟩ : ∃ h : o + k < c.size, c[o + k] = .int .u64 z := by simpa [Array.getElem?_eq_some_iff] using hcl
        refine ⟨b, o, rfl, blk_lt hbb, by rw [blk_ok hbb]; exact Nat.ble_eq_true_of_le hok, ?_⟩
        rw [blk_cell hbb]; simp [hok, hcv, hz]
      · cases hcl

/-- The fields of a struct type: types and offsets. -/
def fieldsOf (P : Program) (t : TypeId) : Option (List (TypeId × Nat)) := match P.underlying t with
  | some (.struct fs) => some (fs.toList.map fun f => (f.type, f.offset))
  | _ => Option.none
theorem fields_of {t : TypeId} {l : List (TypeId × Nat)} (h : fieldsOf Tryz.prog t = some l) : ∃ fs : List Field, Tryz.prog.underlying t = some (.struct fs.toArray) ∧ fs.map (fun f => (f.type, f.offset)) = l := by
  unfold fieldsOf at h
  split at h
  · rename_i fs hu
    exact ⟨fs.toList, by simpa using hu, by simpa using h⟩
  · cases h
theorem fl251 : fieldsOf Tryz.prog 251 = some [(9, 0), (82, 1), (82, 2)] := by kernel_rfl
theorem fl366 : fieldsOf Tryz.prog 366 = some [(9, 0), (364, 1)] := by kernel_rfl

theorem all_of {W : World} {cs : Array Value} {fuel : Nat} {p : List MemPlace} (hv : World.var? Tryz.prog W "hostler/event.all" = some cs)
    (hd : DataW.trod (fun _ => ()) Tryz.prog W 0 (fun _ => true) false fuel 334 cs.toList = some (Rows.laid_hostler_event_all, p)) : ∀ k, k < 8 → rowOk W.heap 1 (3 * k) 3 = true ∧ ∃ n : ByteArray, rowD W.heap 1 (3 * k) 3 = #[.string n, u64 (kindOf' k).2.1, u64 (kindOf' k).2.2] := by
  intro k hk
  obtain ⟨e, f, hb⟩ := blk_of_var gAll hv
  obtain ⟨hl, m, y, h1, h2⟩ := arr_part (ds := (List.range 8).map fun k => .agg [.lit (.string (kindOf' k).1), .lit (.int .u64 (kindOf' k).2.1), .lit (.int .u64 (kindOf' k).2.2)]) u334 hd rfl hk
  rw [c1.2.2.2.2.1] at h1
  rw [c2.2.2.1] at hl
  simp [hk] at h2
  obtain ⟨fs, hu, hfs⟩ := fields_of fl251
  obtain ⟨f0, f1, f2, rfl⟩ : ∃ f0 f1 f2, fs = [f0, f1, f2] := by
    match fs, hfs with
    | [f0, f1, f2], _ => exact ⟨f0, f1, f2, rfl⟩
  simp at hfs
  obtain ⟨⟨t0, o0⟩, ⟨t1, o1⟩, t2, o2⟩ := hfs
  obtain ⟨y0, y1, y2, q, hy, -, k0, k1, k2⟩ := Go.Deep.trod_struct3 hu h1
  rw [t0, o0, c1.2.2.2.1] at k0
  rw [t1, o1, c1.2.2.1] at k1
  rw [t2, o2, c1.2.2.1] at k2
  obtain ⟨n0, a0, b0, -⟩ := DataW.trod_string u9 k0
  obtain ⟨n1, a1, b1, -⟩ := DataW.trod_int u82 k1
  obtain ⟨n2, a2, b2, -⟩ := DataW.trod_int u82 k2
  rw [hy, b0, b1, b2] at h2
  simp at h2
  have g0 := take1 a0
  have g1 := take1 a1
  have g2 := take1 a2
  have hlt : 3 * k + 3 ≤ cs.size := by simp at hl; omega
  refine ⟨by rw [blk_rowOk hb]; exact Nat.ble_eq_true_of_le hlt, n0, ?_⟩
  rw [blk_row hb]
  simp [List.getElem?_take, List.getElem?_drop] at g0 g1 g2
  apply Array.ext
  · simp; omega
  · intro i i1 i2
    simp at i2
    have hi : i = 0 ∨ i = 1 ∨ i = 2 := by omega
    rw [Nat.mul_comm] at g0 g1 g2
    rcases hi with rfl | rfl | rfl
    · simp [Array.getElem?_eq_some_iff] at g0 ⊢
      exact g0.2
    · simp [Array.getElem?_eq_some_iff] at g1 ⊢
      rw [g1.2, h2.2.1]
    · simp [Array.getElem?_eq_some_iff] at g2 ⊢
      rw [g2.2, h2.2.2]

theorem places_of {W : World} {cs : Array Value} {fuel : Nat} {p : List MemPlace} (hv : World.var? Tryz.prog W "hostler/mach.places" = some cs)
    (hd : DataW.trod (fun _ => ()) Tryz.prog W 0 (fun _ => true) false fuel 402 cs.toList = some (Rows.laid_hostler_mach_places, p)) : ∀ k, k < 31 → rowOk W.heap 2 (2 * k) 2 = true ∧ ∃ n : ByteArray, rowD W.heap 2 (2 * k) 2 = #[.string n, i64 (whose k)] := by
  intro k hk
  obtain ⟨e, f, hb⟩ := blk_of_var gPlaces hv
  obtain ⟨ds, hds, hw⟩ : ∃ ds : List (DataW Unit), Rows.laid_hostler_mach_places = .agg ds ∧ ∀ k, k < 31 → ∃ s, ds[k]? = some (.agg [.lit (.string s), .lit (.int .i64 (whose k))]) := ⟨_, rfl, by
    intro k hk
    have : k = 0 ∨ k = 1 ∨ k = 2 ∨ k = 3 ∨ k = 4 ∨ k = 5 ∨ k = 6 ∨ k = 7 ∨ k = 8 ∨ k = 9 ∨ k = 10 ∨ k = 11 ∨ k = 12 ∨ k = 13 ∨ k = 14 ∨ k = 15 ∨ k = 16 ∨ k = 17 ∨ k = 18 ∨ k = 19 ∨ k = 20 ∨ k = 21 ∨ k = 22 ∨ k = 23 ∨ k = 24 ∨ k = 25 ∨ k = 26 ∨ k = 27 ∨ k = 28 ∨ k = 29 ∨ k = 30 := by omega
    rcases this with rfl | rfl | rfl | rfl | rfl | rfl | rfl | rfl | rfl | rfl | rfl | rfl | rfl | rfl | rfl | rfl | rfl | rfl | rfl | rfl | rfl | rfl | rfl | rfl | rfl | rfl | rfl | rfl | rfl | rfl | rfl <;> exact ⟨_, rfl⟩⟩
  obtain ⟨hl, m, y, h1, h2⟩ := arr_part (ds := ds) u402 hd hds hk
  rw [c1.2.2.2.2.2] at h1
  rw [c2.2.2.2] at hl
  obtain ⟨s, hs⟩ := hw k hk
  rw [hs] at h2
  simp only [Option.some.injEq] at h2
  obtain ⟨fs, hu, hfs⟩ := fields_of fl366
  obtain ⟨f0, f1, rfl⟩ : ∃ f0 f1, fs = [f0, f1] := by
    match fs, hfs with
    | [f0, f1], _ => exact ⟨f0, f1, rfl⟩
  simp at hfs
  obtain ⟨⟨t0, o0⟩, t1, o1⟩ := hfs
  have cc : Tryz.prog.cellsOf 364 = 1 := by kernel_rfl
  have u1 : Tryz.prog.underlying 364 = some (.int .i64) := by kernel_rfl
  obtain ⟨y0, y1, q, hy, -, k0, k1⟩ := trod_struct2 hu h1
  rw [t0, o0, c1.2.2.2.1] at k0
  rw [t1, o1, cc] at k1
  obtain ⟨n0, a0, b0, -⟩ := DataW.trod_string u9 k0
  obtain ⟨n1, a1, b1, -⟩ := DataW.trod_int u1 k1
  rw [hy, b0, b1] at h2
  simp at h2
  have g0 := take1 a0
  have g1 := take1 a1
  have hlt : 2 * k + 2 ≤ cs.size := by simp at hl; omega
  refine ⟨by rw [blk_rowOk hb]; exact Nat.ble_eq_true_of_le hlt, n0, ?_⟩
  rw [blk_row hb]
  simp [List.getElem?_take, List.getElem?_drop] at g0 g1
  apply Array.ext
  · simp; omega
  · intro i i1 i2
    simp at i2
    have hi : i = 0 ∨ i = 1 := by omega
    rw [Nat.mul_comm] at g0 g1
    rcases hi with rfl | rfl
    · simp [Array.getElem?_eq_some_iff] at g0 ⊢
      exact g0.2
    · simp [Array.getElem?_eq_some_iff] at g1 ⊢
      rw [g1.2, h2.2]

/-- The list of variables that nearly all rows bear. -/
def laid4 : List (String × DataW Unit) := [("math/bits.deBruijn64tab", Rows.laid_math_bits_deBruijn64tab), ("hostler/status.next", Rows.laid_hostler_status_next), ("hostler/event.all", Rows.laid_hostler_event_all), ("hostler/mach.places", Rows.laid_hostler_mach_places)]

theorem glob_of {W : World} (h : laidMetH Tryz.prog laid4 W) : Glob W.heap.size W.heap := by
  rw [MakeChecks.laidMetH_plain _ _ _ (by kernel_rfl)] at h
  obtain ⟨ps, ⟨g0, t0, cs0, f0, p0, q0, hg0, ht0, hv0, hd0, ⟨g1, t1, cs1, f1, p1, q1, hg1, ht1, hv1, hd1, ⟨g2, t2, cs2, f2, p2, q2, hg2, ht2, hv2, hd2, ⟨g3, t3, cs3, f3, p3, q3, hg3, ht3, hv3, hd3, _, _⟩, _⟩, _⟩, _⟩, _, _⟩ := h
  obtain rfl := Option.some.inj (gTz.symm.trans hg0)
  obtain rfl := Option.some.inj (gNext.symm.trans hg1)
  obtain rfl := Option.some.inj (gAll.symm.trans hg2)
  obtain rfl := Option.some.inj (gPlaces.symm.trans hg3)
  obtain rfl := Option.some.inj (tTz.symm.trans ht0)
  obtain rfl := Option.some.inj (tNext.symm.trans ht1)
  obtain rfl := Option.some.inj (tAll.symm.trans ht2)
  obtain rfl := Option.some.inj (tPlaces.symm.trans ht3)
  refine ⟨Nat.le_refl _, ?_, next_of hv1 hd1, all_of hv2 hd2, places_of hv3 hd3, tz_of hv0 hd0⟩
  obtain ⟨e, f, hb⟩ := blk_of_var gTz hv0
  have := blk_lt hb
  omega
end Go.Proofs.YtgjafaheglnheaaGreatDoor
