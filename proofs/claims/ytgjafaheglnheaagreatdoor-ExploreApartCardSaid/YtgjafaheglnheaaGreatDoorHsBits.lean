/- Shifts and bits of whole numbers, told by natural numbers. General. Conditions: a shift is by less than 64; what is a uint64 is below 2^64. -/
import Derived.Test.YtgjafaheglnheaaGreatDoorHsSlices2
namespace Go.Tr

section
variable {P : Program}
theorem wrap_u64 (n : Nat) (h : n < 2 ^ 64) : IntKind.u64.wrap (n : Int) = (n : Int) := by
  unfold IntKind.wrap
  simp [IntKind.bits, IntKind.signed]
  omega

theorem dry_shift_raw (op : BinOp) (hop : op = .shl ∨ op = .shr) (t : TypeId) (xo yo : Operand) (k k2 : IntKind) (a b : Int) : dry P (N.bin op t xo yo (.int k a) (.int k2 b)).sem = dry P (do pure (Next.value (← Op.shift op k a k2 b))) := by
  rcases hop with rfl | rfl <;> rfl

theorem dry_shr64 (t : TypeId) (xo yo : Operand) (k2 : IntKind) (w i : Nat) (hi : i < 64) : dry P (N.bin .shr t xo yo (.int .u64 (w : Int)) (.int k2 (i : Int))).sem = some (.value (.int .u64 ((w >>> i : Nat) : Int))) := by
  rw [dry_shift_raw _ (.inr rfl)]
  have h0 : ¬ ((i : Int) < 0) := by omega
  have hm : min i 64 = i := by omega
  have e : (w : Int).fdiv (2 ^ i) = ((w >>> i : Nat) : Int) := by
    rw [Nat.shiftRight_eq_div_pow]
    rw [Int.fdiv_eq_ediv_of_nonneg _ (by exact Int.le_of_lt (Int.pow_pos (by decide)))]
    simp
  simp only [Op.shift, h0, if_false, IntKind.bits, Int.toNat_natCast, hm, e]
  rfl

theorem dry_shl1 (t : TypeId) (xo yo : Operand) (k2 : IntKind) (i : Nat) (hi : i < 64) : dry P (N.bin .shl t xo yo (.int .u64 1) (.int k2 (i : Int))).sem = some (.value (.int .u64 ((2 ^ i : Nat) : Int))) := by
  rw [dry_shift_raw _ (.inl rfl)]
  have h0 : ¬ ((i : Int) < 0) := by omega
  have hm : min i 64 = i := by omega
  have e : IntKind.u64.wrap (1 * 2 ^ i) = ((2 ^ i : Nat) : Int) := by
    have := wrap_u64 (2 ^ i) (Nat.pow_lt_pow_right (by decide) hi)
    simpa using this
  simp only [Op.shift, h0, if_false, IntKind.bits, Int.toNat_natCast, hm, e]
  rfl

theorem ofInt_nat (w : Nat) : BitVec.ofInt 64 (w : Int) = BitVec.ofNat 64 w := by simp

theorem dry_and64 (t : TypeId) (xo yo : Operand) (a b : Nat) (ha : a < 2 ^ 64) (hb : b < 2 ^ 64) : dry P (N.bin .and t xo yo (.int .u64 (a : Int)) (.int .u64 (b : Int))).sem = some (.value (.int .u64 ((a &&& b : Nat) : Int))) := by
  have e : dry P (N.bin .and t xo yo (.int .u64 (a : Int)) (.int .u64 (b : Int))).sem = dry P (do pure (Next.value (← Op.intBits .and .u64 a b))) := rfl
  rw [e]
  have h : IntKind.u64.wrap ((BitVec.ofInt 64 (a : Int) &&& BitVec.ofInt 64 (b : Int)).toNat : Int) = ((a &&& b : Nat) : Int) := by
    rw [ofInt_nat, ofInt_nat]
    have : (BitVec.ofNat 64 a &&& BitVec.ofNat 64 b).toNat = a &&& b := by
      simp [Nat.mod_eq_of_lt ha, Nat.mod_eq_of_lt hb]
    rw [this]
    exact wrap_u64 _ (Nat.lt_of_le_of_lt Nat.and_le_left ha)
  simp only [Op.intBits]
  show some (Next.value (.int .u64 (IntKind.u64.wrap ((BitVec.ofInt 64 (a : Int) &&& BitVec.ofInt 64 (b : Int)).toNat : Int)))) = _
  rw [h]

theorem dry_xor64 (t : TypeId) (xo yo : Operand) (a b : Nat) (ha : a < 2 ^ 64) (hb : b < 2 ^ 64) : dry P (N.bin .xor t xo yo (.int .u64 (a : Int)) (.int .u64 (b : Int))).sem = some (.value (.int .u64 ((a ^^^ b : Nat) : Int))) := by
  have e : dry P (N.bin .xor t xo yo (.int .u64 (a : Int)) (.int .u64 (b : Int))).sem = dry P (do pure (Next.value (← Op.intBits .xor .u64 a b))) := rfl
  rw [e]
  have h : IntKind.u64.wrap ((BitVec.ofInt 64 (a : Int) ^^^ BitVec.ofInt 64 (b : Int)).toNat : Int) = ((a ^^^ b : Nat) : Int) := by
    rw [ofInt_nat, ofInt_nat]
    have : (BitVec.ofNat 64 a ^^^ BitVec.ofNat 64 b).toNat = a ^^^ b := by
      simp [Nat.mod_eq_of_lt ha, Nat.mod_eq_of_lt hb]
    rw [this]
    exact wrap_u64 _ (Nat.xor_lt_two_pow ha hb)
  show some (Next.value (.int .u64 (IntKind.u64.wrap ((BitVec.ofInt 64 (a : Int) ^^^ BitVec.ofInt 64 (b : Int)).toNat : Int)))) = _
  rw [h]

def boolT (P : Program) (t : TypeId) : Bool := match P.underlying t with
  | some .bool => true
  | _ => false
theorem dry_equalB {t : TypeId} {a b : Bool} (h : boolT P t = true) : dry P (Op.equal t (.bool a) (.bool b)) = some (a == b) := by
  unfold boolT at h
  split at h
  · rename_i hu
    have e3 : ∀ d, dry P (Op.equalIn (d + 1) t (.bool a) (.bool b)) = some (a == b) := fun d => by
      unfold Op.equalIn
      simp [dry, Pure.pure, dry_bind, underlying, program, hu]
    exact e3 9999
  · cases h
@[simp] theorem dry_neqB {t : TypeId} {xo yo : Operand} {a b : Bool} (h : boolT P t = true) : dry P (N.bin .neq t xo yo (.bool a) (.bool b)).sem = some (.value (.bool (a != b))) := by
  simp only [N.sem, dry_bind]
  have e1 : eqGuard .neq t xo yo (.bool a) (.bool b) = Pure.pure () := rfl
  have e2 : binOp .neq t (.bool a) (.bool b) = (do pure (Value.bool (!(← Op.equal t (.bool a) (.bool b))))) := rfl
  rw [e1, e2]
  simp only [dry_bind, dry_equalB h]
  rfl
theorem and_one_eq (w i : Nat) : ((w >>> i) &&& 1) = if w.testBit i then 1 else 0 := by
  rw [Nat.testBit, Nat.and_comm]
  have : 1 &&& (w >>> i) = (w >>> i) % 2 := by rw [Nat.and_comm]; exact Nat.and_one_is_mod _
  rw [this]
  rcases Nat.mod_two_eq_zero_or_one (w >>> i) with h | h <;> simp [h]
end
end Go.Tr
