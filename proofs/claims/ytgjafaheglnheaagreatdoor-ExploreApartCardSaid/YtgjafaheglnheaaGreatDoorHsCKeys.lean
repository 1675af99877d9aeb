/- Keys that are arrays of five ints. No condition. -/
import Derived.Test.YtgjafaheglnheaaGreatDoorHsCMap
import Derived.WideKeyRuns
set_option maxRecDepth 20000
namespace Go.Tr
open Go Go.MapKept

abbrev Five := Int × Int × Int × Int × Int
def five (a : Five) : Value := .agg #[i64 a.1, i64 a.2.1, i64 a.2.2.1, i64 a.2.2.2.1, i64 a.2.2.2.2]

section
variable {P : Program} {kt et : TypeId}
theorem plain_int {kd : IntKind} (he : P.underlying et = some (.int kd)) : P.plainKey et = true := by simp [Program.plainKey, he]
theorem equalIn_int {kd : IntKind} (he : P.underlying et = some (.int kd)) (d : Nat) (a b : Int) (w : World) : (Op.equalIn (d + 1) et (.int kd a) (.int kd b)).run P w = .ok (a == b) w := by
  simp [Op.equalIn, run_underlying he]

theorem item_step (he : P.underlying et = some (.int .i64)) (d : Nat) (w : World) {xs ys : Array Value} {i : Nat} {is : List Nat} {a b : Int} (ha : xs[i]? = some (i64 a)) (hb : ys[i]? = some (i64 b)) :
    (Op.eqItems (d + 1) et 1 xs ys (i :: is)).run P w = if a = b then (Op.eqItems (d + 1) et 1 xs ys is).run P w else .ok false w := by
  have hp := plain_int he
  simp only [Op.eqItems, Sem.run_bind, Nat.mul_one, run_part_plain w hp ha, run_part_plain w hp hb, Result.andThen_ok, equalIn_int he]
  by_cases h : a = b
  · simp [h]
  · simp [h]
theorem five_eq (ht : P.underlying kt = some (.array 5 et)) (he : P.underlying et = some (.int .i64)) {i : TypeInfo} (hi : P.info? et = some i) (hc : P.cellsOf et = 1) (w : World) (a b : Five) :
    (Op.equal kt (five a) (five b)).run P w = .ok (decide (b = a)) w := by
  obtain ⟨d, hd⟩ : ∃ d, Op.maxDepth = d + 1 + 1 := ⟨Op.maxDepth - 2, rfl⟩
  unfold Op.equal
  rw [hd]
  unfold five
  rw [run_equalIn_array w (d + 1) _ _ ht hi, hc]
  obtain ⟨a1, a2, a3, a4, a5⟩ := a
  obtain ⟨b1, b2, b3, b4, b5⟩ := b
  have er : List.range 5 = [0, 1, 2, 3, 4] := rfl
  rw [er, item_step he d w (a := a1) (b := b1) rfl rfl, item_step he d w (a := a2) (b := b2) rfl rfl, item_step he d w (a := a3) (b := b3) rfl rfl, item_step he d w (a := a4) (b := b4) rfl rfl, item_step he d w (a := a5) (b := b5) rfl rfl]
  simp only [Op.eqItems, Sem.run_pure, Prod.mk.injEq]
  by_cases h1 : a1 = b1
  · by_cases h2 : a2 = b2
    · by_cases h3 : a3 = b3
      · by_cases h4 : a4 = b4
        · by_cases h5 : a5 = b5
          · simp [h1, h2, h3, h4, h5]
          · simp [h1, h2, h3, h4, h5, Ne.symm h5]
        · simp [h1, h2, h3, h4, Ne.symm h4]
      · simp [h1, h2, h3, Ne.symm h3]
    · simp [h1, h2, Ne.symm h2]
  · simp [h1, Ne.symm h1]
theorem find_asking {α : Type} [DecidableEq α] {enc : α → Value} (h : ∀ (w : World) a b, (Op.equal kt (enc a) (enc b)).run P w = .ok (decide (b = a)) w) (w : World) (a : α) :
    ∀ (es : List (Ent α)) (i : Nat), (Instr.findAsking kt (enc a) (ents enc es) i).run P w = .ok (findE a es i) w
  | [], i => by simp [ents, Instr.findAsking, findE]
  | e :: es, i => by
    have ih := find_asking h w a es (i + 1)
    unfold ents at ih ⊢
    simp only [List.map_cons, Instr.findAsking, Sem.run_bind, h, Result.andThen_ok, findE]
    by_cases h1 : e.1 = a
    · simp [h1]
    · simp [h1, ih]
theorem keyX_five (ht : P.underlying kt = some (.array 5 et)) (he : P.underlying et = some (.int .i64)) {i : TypeInfo} (hi : P.info? et = some i) (hc : P.cellsOf et = 1) : KeyX P kt five where
  check w em a := by
    show (Instr.checkKey em (9998 + 1 + 1) kt (five a)).run P w = .ok () w
    have hp := plain_int he
    have part1 : ∀ (cs : Array Value) (o : Nat) (v : Value), cs[o]? = some v → (part et cs o).run P w = .ok v w := fun cs o v h => run_part_plain w hp h
    have ck : ∀ x : Int, (Instr.checkKey em (9998 + 1) et (i64 x)).run P w = .ok () w := fun x => run_checkKey he (by simp [IsKey]) em 9998
    unfold five
    rw [Instr.checkKey]
    have hs : (sizeOf et).run P w = .ok 1 w := by rw [run_sizeOf w hi, hc]
    obtain ⟨a1, a2, a3, a4, a5⟩ := a
    have q0 := part1 #[i64 a1, i64 a2, i64 a3, i64 a4, i64 a5] 0 (i64 a1) rfl
    have q1 := part1 #[i64 a1, i64 a2, i64 a3, i64 a4, i64 a5] 1 (i64 a2) rfl
    have q2 := part1 #[i64 a1, i64 a2, i64 a3, i64 a4, i64 a5] 2 (i64 a3) rfl
    have q3 := part1 #[i64 a1, i64 a2, i64 a3, i64 a4, i64 a5] 3 (i64 a4) rfl
    have q4 := part1 #[i64 a1, i64 a2, i64 a3, i64 a4, i64 a5] 4 (i64 a5) rfl
    simp only [Nat.reduceAdd] at ck
    simp [run_underlying ht, Std.Legacy.Range.forIn_eq_forIn_range', Std.Legacy.Range.size, List.range', hs, q0, q1, q2, q3, q4, ck, Result.andThen]
  find w a es := by
    rw [run_findKey_eq w (by rw [ht])]
    exact find_asking (fun w a b => five_eq ht he hi hc w a b) w a es 0
  stay w a := by
    simp [Instr.keyThatStays, five, Instr.sameBits]
end
end Go.Tr
