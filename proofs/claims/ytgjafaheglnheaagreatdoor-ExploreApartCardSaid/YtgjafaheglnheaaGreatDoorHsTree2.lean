/- The law that carries a proof over the tree of a Go function to the machine: what holds of each operation and of each region in the order of the text. General: it speaks of whatever program. No condition. -/
import Derived.Test.YtgjafaheglnheaaGreatDoorHsTree
namespace Go.Tr

def Fits (n : Nat) (ρ : Env) (a : Act) : Prop := a.tmps.size = n ∧ ∀ i v, ρ i = some v → a.tmps[i]? = some v.toValue
def Fr (D : List Nat) (a a' : Act) : Prop := a'.defers = a.defers ∧ ∀ i, i ∉ D → a'.tmps[i]? = a.tmps[i]?

theorem Fr.refl (D : List Nat) (a : Act) : Fr D a a := ⟨rfl, fun _ _ => rfl⟩
theorem Fr.trans {D : List Nat} {a b c : Act} (h : Fr D a b) (k : Fr D b c) : Fr D a c := ⟨k.1.trans h.1, fun i hi => (k.2 i hi).trans (h.2 i hi)⟩
theorem Fr.mono {D D' : List Nat} {a b : Act} (h : Fr D a b) (hd : ∀ i ∈ D, i ∈ D') : Fr D' a b := ⟨h.1, fun i hi => h.2 i fun hm => hi (hd i hm)⟩

theorem fr_put (a : Act) (d : Option Nat) (v : Value) : Fr d.toList a (a.put d v) := by
  cases d with
  | none => exact Fr.refl _ _
  | some d => exact ⟨rfl, fun i hi => by simp only [Act.put]; rw [Array.getElem?_setIfInBounds_ne]; rintro rfl; simp at hi⟩

theorem fits_put {n : Nat} {ρ : Env} {a : Act} (h : Fits n ρ a) {d : Nat} (hd : d < n) (v : V) : Fits n (ρ.put d v) (a.put (some d) v.toValue) := by
  refine ⟨by simp [Act.put, h.1], fun i u hi => ?_⟩
  simp only [Env.put] at hi
  simp only [Act.put]
  by_cases hid : i = d
  · subst hid
    simp at hi
    subst hi
    rw [Array.getElem?_setIfInBounds_self_of_lt (by rw [h.1]; exact hd)]
  · have : Nat.beq i d = false := by
      cases hb : Nat.beq i d with
      | false => rfl
      | true => exact absurd (Nat.eq_of_beq_eq_true hb) hid
    rw [this] at hi
    rw [Array.getElem?_setIfInBounds_ne (Ne.symm hid)]
    exact h.2 i u (by simpa using hi)

theorem fits_putD {n : Nat} {ρ : Env} {a : Act} (h : Fits n ρ a) {o : Oper} (hd : dstOk n o = true) (v : V) : Fits n (ρ.putD o.dst v) (a.put o.dst v.toValue) := by
  unfold dstOk at hd
  unfold Env.putD
  split at hd
  · rename_i d hd'; rw [hd']; exact fits_put h (Nat.le_of_ble_eq_true hd) v
  · rename_i hd'; rw [hd']; exact h

/-- A fact on a slot that the frame holds already. -/
theorem fits_known {n : Nat} {ρ : Env} {a : Act} (h : Fits n ρ a) {d : Nat} {u : V} (hu : ρ d = some u) (v : V) (hv : u.toValue = v.toValue) : Fits n (ρ.put d v) a := by
  refine ⟨h.1, fun i x hi => ?_⟩
  simp only [Env.put] at hi
  by_cases hid : i = d
  · subst hid
    simp at hi
    subst hi
    rw [← hv]; exact h.2 i u hu
  · have : Nat.beq i d = false := by
      cases hb : Nat.beq i d with
      | false => rfl
      | true => exact absurd (Nat.eq_of_beq_eq_true hb) hid
    rw [this] at hi
    exact h.2 i x (by simpa using hi)

theorem ev_eval {n : Nat} {ρ : Env} {a : Act} (h : Fits n ρ a) (x : Operand) (hx : ∀ t, x = .tmp t → (ρ t).isSome = true) : (ρ.ev x).toValue = a.eval x := by
  cases x with
  | tmp t =>
    have := hx t rfl
    obtain ⟨v, hv⟩ := Option.isSome_iff_exists.1 this
    simp only [Env.ev, hv, Option.getD_some, Act.eval]
    rw [Array.getD_eq_getD_getElem?, h.2 t v hv]
    rfl
  | const v => cases v <;> rfl
  | global g => rfl
  | func f => rfl

theorem known_spec {ρ : Env} {o : Oper} (h : known ρ o = true) : (∀ cs b, o.op ≠ .select cs b) ∧ ∀ x ∈ o.op.operands, ∀ t, x = .tmp t → (ρ t).isSome = true := by
  unfold known at h
  rw [Bool.and_eq_true, List.all_eq_true] at h
  refine ⟨fun cs b e => ?_, fun x hx t e => ?_⟩
  · rw [e] at h; exact absurd h.1 (by simp [noSel])
  · have := h.2 x (Array.mem_toList_iff.2 hx); subst e; exact this

theorem exec_toN {n : Nat} {ρ : Env} {a : Act} (h : Fits n ρ a) {o : Oper} (hk : known ρ o = true) : (toN o fun x => (ρ.ev x).toValue).sem = execOp a.eval o := by
  rw [toN_sem]
  obtain ⟨hs, ho⟩ := known_spec hk
  exact execOp_congr o hs fun x hx => ev_eval h x (ho x hx)

theorem upon_of_ok {P : Program} {o : Oper} {a : Act} {K : Act → World → Prop} {Q : Exit → Act → World → Prop} {w : World} {K' : Value → Heap → Prop} {r : Result Next}
    (h : okNext P w K' r) (hK : ∀ v w', Keeps w w' → K' v w'.heap → K (a.put o.dst v) w') : o.upon P a K Q r := by
  cases r with
  | ok nx w' =>
    cases nx <;> simp only [okNext] at h <;> simp only [Oper.upon]
    case value v => exact hK _ _ h.1 h.2
    case skip => exact hK _ _ h.1 h.2
    case enter f args =>
      refine (h.2 w' rfl).mono ?_
      rintro e w'' ⟨v, rfl, hk, q⟩
      exact hK _ _ (h.1.trans hk) q
    case row row args => exact h.mono fun v w'' q => hK _ _ q.1 q.2
  | halt x w' => exact h.elim

theorem stepT_sound {P : Program} {C : Cfg} {n : Nat} {o : Oper} {ρ : Env} {k : Env → T} {QQ : List Value → Heap → Prop} {R : Option Nat → List Value → Heap → Prop}
    {a : Act} {w : World} {K : Act → World → Prop} {Q : Exit → Act → World → Prop} (hf : Fits n ρ a) (h : wpH P QQ (stepT C n o ρ k) R w.heap)
    (hK : ∀ ρ' a' w', Fits n ρ' a' → Fr o.dst.toList a a' → Keeps w w' → wpH P QQ (k ρ') R w'.heap → K a' w') : o.wp P a w K Q := by
  unfold stepT at h
  split at h
  case isFalse => exact h.elim
  rename_i hkd
  rw [Bool.and_eq_true] at hkd
  obtain ⟨hkn, hd⟩ := hkd
  have hex := exec_toN hf hkn
  have hops := (known_spec hkn).2
  unfold Oper.wp
  have hmove : ∀ x, execOp a.eval o = Pure.pure (Next.value (a.eval x)) → x ∈ o.op.operands → wpH P QQ (k (ρ.putD o.dst (ρ.ev x))) R w.heap → o.upon P a K Q ((execOp a.eval o).run P w) := fun x e hx h => by
    rw [e]
    show K (a.put o.dst (a.eval x)) w
    rw [← ev_eval hf x (hops x hx)]
    exact hK _ _ _ (fits_putD hf hd _) (fr_put _ _ _) (Keeps.refl w) h
  split at h
  · rename_i x e
    exact hmove x (by simp only [execOp, e]) (by simp [Op.operands, e]) h
  · rename_i x e
    exact hmove x (by simp only [execOp, e]) (by simp [Op.operands, e]) h
  · rename_i c x y e
    split at h
    · rename_i t hc
      have h1 : a.eval c = .bool t := by rw [← ev_eval hf c (hops c (by simp [Op.operands, e])), hc]; rfl
      have e1 : execOp a.eval o = Pure.pure (Next.value (a.eval (if t then x else y))) := by
        simp only [execOp, e, h1]
        cases t <;> rfl
      refine hmove (if t then x else y) e1 (by cases t <;> simp [Op.operands, e]) ?_
      cases t <;> exact h
    · obtain ⟨v, hv, hr⟩ := h
      have e1 : execOp a.eval o = N.sem (.pick (ρ.ev c).toValue (ρ.ev x).toValue (ρ.ev y).toValue) := by
        rw [ev_eval hf c (hops c (by simp [Op.operands, e])), ev_eval hf x (hops x (by simp [Op.operands, e])), ev_eval hf y (hops y (by simp [Op.operands, e]))]
        simp only [execOp, e, N.sem]
      rw [e1, run_dry hv w]
      exact hK _ _ _ (fits_putD hf hd (.val v)) (fr_put _ _ _) (Keeps.refl w) hr
  · split at h
    · obtain ⟨v, hv, hr⟩ := h
      rw [← hex, run_dry hv w]
      exact hK _ _ _ (fits_putD hf hd (.val v)) (fr_put _ _ _) (Keeps.refl w) hr
    · obtain ⟨v, hv, hr⟩ := h
      rw [← hex, hv w rfl]
      exact hK _ _ _ (fits_putD hf hd (.val v)) (fr_put _ _ _) (Keeps.refl w) hr
    · rw [← hex]
      exact upon_of_ok (h w rfl) fun v w' hk hr => hK _ _ _ (fits_putD hf hd (.val v)) (fr_put _ _ _) hk hr.2

theorem yielded_of {n : Nat} {ops : Array Oper} {ρ : Env} {a : Act} (hf : Fits n ρ a) {j d : Nat} (hj : (ops[j]?).bind (·.dst) = some d) {v : V} (hv : ρ d = some v) :
    yielded ops a.tmps j = match v.toValue with | .bool b => some b | _ => none := by
  unfold yielded
  rw [hj]
  simp only [Option.bind_some, hf.2 d v hv]
  split <;> simp_all

theorem guardOf_run {n : Nat} {ops : Array Oper} {ρ : Env} {a : Act} {o : Oper} (hf : Fits n ρ a) (h : guardOf ops ρ o = .run) : Region.wanted o (yielded ops a.tmps) = true := by
  unfold guardOf at h
  unfold Region.wanted
  split at h
  · rename_i e; rw [e]
  · rename_i j want e
    rw [e]
    dsimp only
    split at h
    · cases h
    · rename_i d hd
      split at h
      · rename_i b hb
        split at h
        · rename_i hbw; rw [yielded_of hf hd hb]; simp [V.toValue] at *; exact hbw
        · cases h
      · cases h
      · cases h
      · cases h

theorem guardOf_skip {n : Nat} {ops : Array Oper} {ρ : Env} {a : Act} {o : Oper} (hf : Fits n ρ a) (h : guardOf ops ρ o = .skip) : Region.wanted o (yielded ops a.tmps) = false := by
  unfold guardOf at h
  unfold Region.wanted
  split at h
  · cases h
  · rename_i j want e
    rw [e]
    dsimp only
    split at h
    · rename_i hd; simp [yielded, hd]
    · rename_i d hd
      split at h
      · rename_i b hb
        split at h
        · cases h
        · rename_i hbw; rw [yielded_of hf hd hb]; simp [V.toValue] at *; exact hbw
      · rename_i hu; rw [yielded_of hf hd hu]; simp [V.toValue, undef]
      · cases h
      · cases h

theorem guardOf_ask {n : Nat} {ops : Array Oper} {ρ : Env} {a : Act} {o : Oper} {d : Nat} {c : Value} {want : Bool} (hf : Fits n ρ a) (h : guardOf ops ρ o = .ask d c want) :
    ρ d = some (.val c) ∧ ∀ b, c = .bool b → Region.wanted o (yielded ops a.tmps) = (b == want) := by
  unfold guardOf at h
  unfold Region.wanted
  split at h
  · cases h
  · rename_i j want' e
    rw [e]
    dsimp only
    split at h
    · cases h
    · rename_i d' hd
      split at h
      · split at h <;> cases h
      · cases h
      · rename_i v hv
        cases h
        refine ⟨hv, fun b hb => ?_⟩
        rw [yielded_of hf hd hv, hb]
        simp [V.toValue]
      · cases h

theorem dstOk_lt {n : Nat} {o : Oper} {d : Nat} (h : dstOk n o = true) (hd : o.dst = some d) : d < n := by
  unfold dstOk at h; rw [hd] at h; exact Nat.le_of_ble_eq_true h

theorem treeL_sound {P : Program} {C : Cfg} {n : Nat} {ops : Array Oper} {κ : Env → T} {QQ : List Value → Heap → Prop} {R : Option Nat → List Value → Heap → Prop}
    {Q : Exit → Act → World → Prop} (l : List Oper) : ∀ (ρ : Env) (a : Act) (w : World), Fits n ρ a → wpH P QQ (treeL C n ops κ l ρ) R w.heap →
    (∀ ρ' a' w', Fits n ρ' a' → Fr (dstsOf l) a a' → Keeps w w' → wpH P QQ (κ ρ') R w'.heap → Q .normal a' w') → wpList P ops Q l a w := by
  induction l with
  | nil => exact fun ρ a w hf h hK => hK ρ a w hf (Fr.refl _ _) (Keeps.refl _) h
  | cons o rest ih =>
    intro ρ a w hf h hK
    have hrest : ∀ ρ' a' w', Fits n ρ' a' → Fr o.dst.toList a a' → Keeps w w' → wpH P QQ (treeL C n ops κ rest ρ') R w'.heap → wpList P ops Q rest a' w' := fun ρ' a' w' hf' hfr hk h' =>
      ih ρ' a' w' hf' h' fun ρ'' a'' w'' hf'' hfr' hk' h'' => hK ρ'' a'' w'' hf''
        ((hfr.mono fun i hi => by simp [dstsOf] at *; exact .inl hi).trans (hfr'.mono fun i hi => by simp [dstsOf] at *; exact .inr hi)) (hk.trans hk') h''
    unfold treeL at h
    split at h
    · rename_i hg
      have hw := guardOf_run hf hg
      unfold wpList
      rw [if_pos hw]
      exact .inl (stepT_sound hf h hrest)
    · rename_i hg
      have hw := guardOf_skip hf hg
      unfold wpList
      rw [if_neg (by rw [hw]; simp)]
      split at h
      · rename_i hd; exact hrest _ _ _ (fits_putD hf hd .und) (fr_put _ _ _) (Keeps.refl _) h
      · exact h.elim
    · rename_i d c want hg
      obtain ⟨hd, hwn⟩ := guardOf_ask hf hg
      split at h
      case isFalse => exact h.elim
      rename_i hdo
      unfold wpList
      rcases h with ⟨hc, h⟩ | ⟨hc, h⟩
      · have hf' : Fits n (ρ.put d (.lit true)) a := fits_known hf hd (.lit true) (by rw [hc]; rfl)
        have := hwn true hc
        cases want
        · rw [if_neg (by rw [this]; simp)]
          exact hrest _ _ _ (fits_putD hf' hdo .und) (fr_put _ _ _) (Keeps.refl _) h
        · rw [if_pos (by rw [this]; simp)]
          exact .inl (stepT_sound hf' h hrest)
      · have hf' : Fits n (ρ.put d (.lit false)) a := fits_known hf hd (.lit false) (by rw [hc]; rfl)
        have := hwn false hc
        cases want
        · rw [if_pos (by rw [this]; simp)]
          exact .inl (stepT_sound hf' h hrest)
        · rw [if_neg (by rw [this]; simp)]
          exact hrest _ _ _ (fits_putD hf' hdo .und) (fr_put _ _ _) (Keeps.refl _) h
    · exact h.elim

end Go.Tr
