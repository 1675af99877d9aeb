/- Layer 20's example lives: a world of one processor, one machine, one goroutine, behind ten picks. Conditions: the program's tables are laid. -/
import Derived.Test.YtgjafaheglnheaaGreatDoorHsCAcc
import Derived.Test.YtgjafaheglnheaaGreatDoorHsCNew6
import Derived.Test.YtgjafaheglnheaaGreatDoorHsTL
import Derived.Test.YtgjafaheglnheaaGreatDoorHsFieldV
set_option maxRecDepth 20000
namespace Go.Tr
open Go.Proofs.Tryz (prog)

def pick0 : St := ⟨0, 0, 0, 0, 0⟩
/-- The example's world behind so many picks. -/
def it : Nat → Wm
  | 0 => Wm.fresh 1 1 1
  | k + 1 => ((it k).step pick0).1
/-- What is asked of a world ahead of a pick of its only machine. -/
def chk (x : Wm) : Bool :=
  let m := x.all 0
  let y := x.begun 0 (x.lock 0)
  let n := y.all 0
  decide (x.M = 1) && decide (x.log.length ≤ 100) && (decide (m.place ≠ 1) || (decide (0 ≤ m.p) && decide (m.p < x.P))) &&
  (!m.inn || (decide (0 ≤ m.ln) && decide (m.ln < x.mem.W.length) && decide (0 ≤ m.ls) && decide (m.ls < x.mem.W.length))) &&
  (decide (x.lock 0 < 0) || decide (n.stage ≠ 2) || (decide (y.M = 1) && ((decide (n.place = 3) && decide (0 ≤ n.p) && decide (n.p < y.P)) || (decide (n.place = 4) && decide (y.queue.length ≤ 100))))) && (x.step pick0).2
theorem chk10 : ∀ k, k < 10 → chk (it k) = true := by decide +kernel
theorem it10 : (it 10).M = 1 ∧ ((it 10).all 0).g = 0 ∧ ((it 10).all 0).place = 0 ∧ (it 10).stat 0 = 2 ∧ (it 10).log.length = 2 ∧ ((it 10).all 0).rest = [] := by decide +kernel

section
variable {gb : Nat} {K : Fix} {O : Side} {H : Heap} {x : Wm}

theorem w_step_pick (h : W gb K O H x) {s : St} (hk : s.kind = 0) (hl : x.log.length ≤ 2 ^ 34)
    (ok : ∀ i : Nat, s.a = i → i < x.M → ((x.all i).place = 1 → 0 ≤ (x.all i).p ∧ (x.all i).p < x.P) ∧
      ((x.all i).inn = true → 0 ≤ (x.all i).ln ∧ (x.all i).ln < x.mem.W.length ∧ 0 ≤ (x.all i).ls ∧ (x.all i).ls < x.mem.W.length) ∧
      (0 ≤ x.lock i → ((x.begun i (x.lock i)).all i).stage = 2 → ActOk gb K (x.begun i (x.lock i)) i ((x.begun i (x.lock i)).all i).times)) :
    CallsH prog 41 #[ptr K.b, s.V] H fun v H' => v = .bool (x.step s).2 ∧ W gb K O H' (x.step s).1 := by
  apply calls41
  simp only [t41]
  rw [wpH_box]
  simp only [Value.cells]
  obtain ⟨h, hn, -⟩ := h.push (.cells #[.int .u8 s.kind, .int .u8 s.act, i64 s.a, i64 s.x, i64 s.d] 40 (0, 0))
  generalize H.size = b at *
  generalize H.push (.cells #[.int .u8 s.kind, .int .u8 s.act, i64 s.a, i64 s.x, i64 s.d] 40 (0, 0)) = H at *
  have hb := h.get (Side.put_self _ _ _)
  have hrow : rowD H b 0 5 = #[.int .u8 s.kind, .int .u8 s.act, i64 s.a, i64 s.x, i64 s.d] := by rw [blk_row hb]; rfl
  have hrok : rowOk H b 0 5 = true := by rw [blk_rowOk hb]; rfl
  simp [blk_ok hb, blk_cell hb, Nat.blt, hk, hrow, hrok]
  have this : CallsH prog 109 #[ptr K.b, .agg #[.int .u8 s.kind, .int .u8 s.act, i64 s.a, i64 s.x, i64 s.d]] H _ := w_pick h (s := s) hl ok
  rw [hk] at this
  refine this.mono ?_
  rintro _ H ⟨rfl, h⟩
  simp [Wm.step, hk]
  exact h.forget hn

theorem lives20 : Lives20 := by
  intro gb H hg
  apply calls39
  simp [t39]
  refine (world_new (P := 1) (M := 1) (G := 1) hg (by decide)).mono ?_
  rintro _ H1 ⟨K, rfl, h1⟩
  try simp
  refine wpH_loop (fun s H' => ∃ k : Nat, k ≤ 10 ∧ s = [i64 k] ∧ W gb K (fun k => H[k]?) H' (it k)) (fun s _ => 10 - (intOf (sl s 0)).toNat) ⟨0, by omega, rfl, h1⟩ ?_
  rintro s H2 ⟨k, hk, rfl, h2⟩
  by_cases hlt : k < 10
  · have hc := chk10 k hlt
    have hki : (k : Int) < 10 := by omega
    have hw : IntKind.i64.wrap ((k : Int) + 1) = ((k + 1 : Nat) : Int) := by rw [wrap_i64 _ (by omega) (by omega)]; simp
    generalize hx : it k = x at *
    simp only [chk, Bool.and_eq_true, Bool.or_eq_true, decide_eq_true_eq, Bool.not_eq_true'] at hc
    obtain ⟨⟨⟨⟨⟨c1, c2⟩, c3⟩, c4⟩, c5⟩, c6⟩ := hc
    have hst := w_step_pick h2 (s := pick0) rfl (by omega) (fun i hi hiM => by
      have : i = 0 := by omega
      subst this
      refine ⟨fun e => ?_, fun e => ?_, fun e es => ?_⟩
      · rcases c3 with c | c
        · exact absurd e c
        · exact c
      · rcases c4 with c | c
        · rw [e] at c; cases c
        · exact ⟨c.1.1.1, c.1.1.2, c.1.2, c.2⟩
      · rcases c5 with (c | c) | ⟨cM, c | c⟩
        · omega
        · exact absurd es c
        · exact act_local (by omega) c.1.1 c.1.2 c.2
        · exact act_global (by omega) c.1 (by omega))
    simp [hki]
    refine hst.mono ?_
    rintro _ H3 ⟨rfl, h3⟩
    simp [c6, hw, intOf]
    refine ⟨⟨k + 1, by omega, by simp, ?_⟩, by omega⟩
    show W gb K _ H3 ((it k).step pick0).1
    rw [hx]; exact h3
  · have hk10 : k = 10 := by omega
    subst hk10
    obtain ⟨e1, e2, e3, e4, e5, e6⟩ := it10
    try simp
    have hrl : ∀ i, i < (it 10).M → ((it 10).all i).rest.length ≤ 2 ^ 34 := fun i hi => by
      have : i = 0 := by omega
      subst this; rw [e6]; simp
    refine (w_machine h2 hrl).mono ?_
    rintro _ H3 ⟨h3, rv, rfl⟩
    simp [e1, e2, Mc.cs]
    refine (w_machine h3 hrl).mono ?_
    rintro _ H4 ⟨h4, rv', rfl⟩
    simp [e1, e3, Mc.cs]
    refine (w_status h4).mono ?_
    rintro _ H5 ⟨rfl, h5⟩
    simp [e4]
    refine (w_events h5 (by omega)).mono ?_
    rintro v H6 ⟨h6, ho, hf, hlen⟩
    obtain ⟨a, n, c, rfl⟩ := ho.shape
    simp only [lenV] at hlen
    simp [hlen, e5]
    exact (h6.unrow fun c hc => (hf c hc).2.1).mod_of
end

end Go.Tr
