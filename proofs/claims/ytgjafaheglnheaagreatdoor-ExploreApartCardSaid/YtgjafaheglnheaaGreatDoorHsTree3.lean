/- The law that carries a proof over the tree of a Go function to the machine: regions whose order is open, loops, joins, a whole function. General: it speaks of whatever program. No condition but that the program's regions draw among all their orders. -/
import Derived.Test.YtgjafaheglnheaaGreatDoorHsTree2
namespace Go.Tr

/-! ### Regions: what is held, and how long -/

/-- Number j waits for number i, at once or through others. -/
inductive Reach (ops : Array Oper) (i : Nat) : Nat → Prop
  | mk {j : Nat} {o : Oper} {e : Edge} (ho : ops[j]? = some o) (he : e ∈ o.after) (hb : Region.binds .any e = true) (h : e.on = i) : Reach ops i j
  | far {j : Nat} {o : Oper} {e : Edge} (ho : ops[j]? = some o) (he : e ∈ o.after) (hb : Region.binds .any e = true) (h : Reach ops i e.on) : Reach ops i j

theorem waits_reach {ops : Array Oper} {i j : Nat} (h : (waits ops i).elem j = true) : Reach ops i j := by
  have key : ∀ (l acc : List Nat), (∀ k ∈ acc, Reach ops i k) → ∀ k ∈ l.foldl (fun acc j => match ops[j]? with
      | some o => if o.after.toList.any (fun e => Region.binds .any e && (Nat.beq e.on i || acc.elem e.on)) then j :: acc else acc
      | none => acc) acc, Reach ops i k := by
    intro l
    induction l with
    | nil => intro acc ha; exact ha
    | cons x l ih =>
      intro acc ha
      rw [List.foldl_cons]
      apply ih
      cases ho : ops[x]? with
      | none => exact ha
      | some o =>
        dsimp only
        split
        · rename_i hany
          intro k hk
          rcases List.mem_cons.1 hk with rfl | hk
          · obtain ⟨e, he, hp⟩ := List.any_eq_true.1 hany
            rw [Bool.and_eq_true] at hp
            rcases Bool.or_eq_true_iff.1 hp.2 with h1 | h1
            · exact .mk ho (Array.mem_toList_iff.1 he) hp.1 (Nat.eq_of_beq_eq_true h1)
            · exact .far ho (Array.mem_toList_iff.1 he) hp.1 (ha _ (List.elem_iff.1 h1))
          · exact ha k hk
        · exact ha
  exact key _ [] (by simp) j (List.elem_iff.1 h)

/-- All that a listed one waits for is listed. -/
def Closed (ops : Array Oper) (listed : Array Bool) : Prop :=
  ∀ j o, ops[j]? = some o → listed.getD j false = true → ∀ e ∈ o.after, Region.binds .any e = true → listed.getD e.on false = true

theorem Closed.set {ops : Array Oper} {listed : Array Bool} {i : Nat} (h : Closed ops listed) (hi : i ∈ Region.ready .any ops listed) : Closed ops (listed.setIfInBounds i true) := by
  intro j o ho hl e he hb
  obtain ⟨_, o', ho', hall⟩ := mem_ready.1 hi
  by_cases hij : i = j
  · subst hij
    rw [ho] at ho'; cases ho'
    exact getD_set_true (hall e he hb)
  · rw [getD_set_ne false hij] at hl
    exact getD_set_true (h j o ho hl e he hb)

theorem Closed.reach {ops : Array Oper} {listed : Array Bool} {i : Nat} (h : Closed ops listed) {j : Nat} (hr : Reach ops i j) :
    (∃ o, ops[j]? = some o ∧ ∀ e ∈ o.after, Region.binds .any e = true → listed.getD e.on false = true) → listed.getD i false = true := by
  induction hr with
  | mk ho he hb hor =>
    rintro ⟨o', ho', hall⟩
    rw [ho] at ho'; cases ho'
    exact hor ▸ hall _ he hb
  | far ho he hb hr' ih =>
    rintro ⟨o', ho', hall⟩
    rw [ho] at ho'; cases ho'
    have hl := hall _ he hb
    cases hr' with
    | mk ho2 _ _ _ => exact ih ⟨_, ho2, fun e' he' hb' => h _ _ ho2 hl e' he' hb'⟩
    | far ho2 _ _ _ => exact ih ⟨_, ho2, fun e' he' hb' => h _ _ ho2 hl e' he' hb'⟩

theorem Closed.not_waits {ops : Array Oper} {listed : Array Bool} {i j : Nat} (h : Closed ops listed) (hi : i ∈ Region.ready .any ops listed) (hj : j ∈ Region.ready .any ops listed) : ¬ (waits ops i).elem j = true := fun hw => by
  obtain ⟨_, o, ho, hall⟩ := mem_ready.1 hj
  have h1 := h.reach (waits_reach hw) ⟨o, ho, hall⟩
  have h0 := (mem_ready.1 hi).1
  rcases Nat.lt_or_ge i listed.size with h' | h'
  · simp [h'] at h0 h1; rw [h0] at h1; cases h1
  · simp [Array.getElem?_eq_none h'] at h1

/-- What is asked of a world for number k, once number j came up. -/
def dropS (ops : Array Oper) (j : Nat) (S : Nat → World → Prop) : Nat → World → Prop := fun k w => (waits ops k).elem j = true ∨ S k w

def wpAnyS (P : Program) (ops : Array Oper) (Q : Exit → Act → World → Prop) : Nat → (Nat → World → Prop) → Array Bool → Act → World → Prop
  | 0, _, listed, a, w => Region.ready .any ops listed = [] ∧ Q .normal a w
  | fuel + 1, S, listed, a, w => (Region.ready .any ops listed = [] → Q .normal a w) ∧
    ∀ i ∈ Region.ready .any ops listed, wpOp P ops Q i (fun a' w' => (∀ k, dropS ops i S k w') ∧ wpAnyS P ops Q fuel (dropS ops i S) (listed.setIfInBounds i true) a' w') a w

section
variable {P : Program} {ops : Array Oper} {Q : Exit → Act → World → Prop}
theorem wpAny_of_S : ∀ (fuel : Nat) (S : Nat → World → Prop) (listed : Array Bool) (a : Act) (w : World), wpAnyS P ops Q fuel S listed a w → wpAny P .any ops Q fuel listed a w
  | 0, _, _, _, _, h => h
  | fuel + 1, _, _, _, _, h => ⟨h.1, fun i hi => wpOp_mono (fun a' w' h' => wpAny_of_S fuel _ _ a' w' h'.2) (h.2 i hi)⟩

theorem wpAnyS_anti : ∀ (fuel : Nat) {S S' : Nat → World → Prop} (_ : ∀ k w, S' k w → S k w) (listed : Array Bool) (a : Act) (w : World), wpAnyS P ops Q fuel S' listed a w → wpAnyS P ops Q fuel S listed a w
  | 0, _, _, _, _, _, _, h => h
  | fuel + 1, S, S', hs, _, _, _, h => ⟨h.1, fun i hi => wpOp_mono (fun a' w' h' => ⟨fun k => (h'.1 k).imp id (hs k _), wpAnyS_anti fuel (fun k w hk => hk.imp id (hs k w)) _ a' w' h'.2⟩) (h.2 i hi)⟩

theorem wpAnyS_done {S : Nat → World → Prop} {listed : Array Bool} {a : Act} {w : World} (hr : Region.ready .any ops listed = []) (h : Q .normal a w) : ∀ fuel, wpAnyS P ops Q fuel S listed a w
  | 0 => ⟨hr, h⟩
  | _ + 1 => ⟨fun _ => h, by rw [hr]; simp⟩

/-- One may be taken first: its own condition is asked only as long as it may still come. -/
theorem wpAnyS_first {i : Nat} {oi : Oper} {v : Value} (hi : ops[i]? = some oi) (hsel : ∀ (j : Nat) (o : Oper) cs b, ops[j]? = some o → o.op ≠ .select cs b)
    (hQ : ∀ c a w, Q (.panic c) (a.put oi.dst v) w → Q (.panic c) a w) :
    ∀ (fuel : Nat) (S : Nat → World → Prop) (listed : Array Bool) (a : Act) (w : World), Closed ops listed →
      (∀ j oj, ops[j]? = some oj → j ≠ i → listed.getD j true = false → (∀ e ∈ oj.after, Region.binds .any e = true → e.on ≠ i) → oi.apart ops oj = true) →
      i ∈ Region.ready .any ops listed → YieldsIf P ops (S i) oi v a → (∀ k, S k w) →
      wpAnyS P ops Q fuel S (listed.setIfInBounds i true) (a.put oi.dst v) w → wpAnyS P ops Q (fuel + 1) S listed a w := by
  intro fuel
  induction fuel with
  | zero =>
    intro S listed a w hcl hfree hr hy hS H
    refine ⟨fun h => (by rw [h] at hr; cases hr), fun j hj => ?_⟩
    by_cases hji : j = i
    · subst hji; exact hy.wpOp hi (hS j) ⟨fun k => .inr (hS k), H⟩
    · have := ready_mono hj hji
      rw [H.1] at this
      cases this
  | succ fuel ih =>
    intro S listed a w hcl hfree hr hy hS H
    refine ⟨fun h => (by rw [h] at hr; cases hr), fun j hj => ?_⟩
    by_cases hji : j = i
    · subst hji; exact hy.wpOp hi (hS j) ⟨fun k => .inr (hS k), wpAnyS_anti _ (fun k w h => .inr h) _ _ _ H⟩
    · have h1 := H.2 j (ready_mono hj hji)
      obtain ⟨hjun, oj, hoj, hall⟩ := mem_ready.1 hj
      have hnot : ∀ e ∈ oj.after, Region.binds .any e = true → e.on ≠ i := fun e he hb heq => by
        have h1 := hall e he hb
        have h0 := (mem_ready.1 hr).1
        rw [heq] at h1
        rcases Nat.lt_or_ge i listed.size with h' | h'
        · simp [h'] at h0 h1; rw [h0] at h1; cases h1
        · simp [Array.getElem?_eq_none h'] at h1
      have hnw := hcl.not_waits hr hj
      have h2 := wpOp_putIf hoj (hfree j oj hoj hji hjun hnot) (fun cs b => hsel i oi cs b hi) (fun cs b => hsel j oj cs b hoj) hQ hy h1
      have hfree' : ∀ k ok, ops[k]? = some ok → k ≠ i → (listed.setIfInBounds j true).getD k true = false →
          (∀ e ∈ ok.after, Region.binds .any e = true → e.on ≠ i) → oi.apart ops ok = true := fun k ok hk hki hun hno => by
        refine hfree k ok hk hki ?_ hno
        by_cases hjk : j = k
        · subst hjk; exact hjun
        · rw [getD_set_ne true hjk] at hun; exact hun
      refine wpOp_mono (fun a' w' h3 => ⟨h3.2.1, ih (dropS ops j S) (listed.setIfInBounds j true) a' w' (hcl.set hj) hfree' (ready_mono hr (Ne.symm hji))
        (h3.1.imp (fun ⟨x, y⟩ => ⟨x, fun w hw => y w (hw.resolve_left hnw)⟩) id) h3.2.1 ?_⟩) h2
      rw [Array.setIfInBounds_comm _ _ hji]
      exact h3.2.2

theorem wpAnyS_take {i : Nat} {oi : Oper} {v : Value} {fuel : Nat} {S : Nat → World → Prop} {listed : Array Bool} {a : Act} {w : World} (hcl : Closed ops listed) (hi : ops[i]? = some oi)
    (hs : Region.noSelect ops = true) (hf : Region.free .any ops listed i = true) (hr : i ∈ Region.ready .any ops listed)
    (hQ : ∀ c a w, Q (.panic c) (a.put oi.dst v) w → Q (.panic c) a w) (hy : YieldsIf P ops (S i) oi v a) (hS : ∀ k, S k w)
    (h : wpAnyS P ops Q fuel S (listed.setIfInBounds i true) (a.put oi.dst v) w) : wpAnyS P ops Q (fuel + 1) S listed a w :=
  wpAnyS_first hi (Region.noSelect_spec hs) hQ fuel S listed a w hcl (Region.free_spec hi hf) hr hy hS h

theorem wpAnyS_all {S : Nat → World → Prop} {rs : List Nat} {fuel : Nat} {listed : Array Bool} {a : Act} {w : World} (hr : Region.ready .any ops listed = rs) (hne : rs ≠ [])
    (h : ∀ i ∈ rs, wpOp P ops Q i (fun a' w' => (∀ k, dropS ops i S k w') ∧ wpAnyS P ops Q fuel (dropS ops i S) (listed.setIfInBounds i true) a' w') a w) : wpAnyS P ops Q (fuel + 1) S listed a w :=
  ⟨fun h0 => absurd (hr ▸ h0) hne, hr ▸ h⟩
end

theorem firstOf_spec {p : Nat → Bool} {l : List Nat} {i : Nat} (h : firstOf p l = some i) : i ∈ l ∧ p i = true := by
  induction l with
  | nil => cases h
  | cons j l ih =>
    unfold firstOf at h
    split at h
    · rename_i hp; cases h; exact ⟨by simp, hp⟩
    · exact ⟨List.mem_cons_of_mem _ (ih h).1, (ih h).2⟩

theorem allT_spec {P : Program} {QQ : List Value → Heap → Prop} {R : Option Nat → List Value → Heap → Prop} {H : Heap} {f : Nat → T} {l : List Nat}
    (h : wpH P QQ (allT f l) R H) : ∀ i ∈ l, wpH P QQ (f i) R H := by
  induction l with
  | nil => simp
  | cons i l ih =>
    cases l with
    | nil => intro j hj; simp at hj; subst hj; exact h
    | cons i' l =>
      intro j hj
      rcases List.mem_cons.1 hj with rfl | hj
      · exact h.1
      · exact ih h.2 j hj

abbrev HeldW (P : Program) (ws : List (Nat × N × Value)) (w : World) : Prop := Held P (ws.map (·.2)) w.heap
/-- What is held for number k. -/
def HeldK (P : Program) (ws : List (Nat × N × Value)) (k : Nat) (w : World) : Prop := ∀ x ∈ ws, x.1 = k → Held P [x.2] w.heap
theorem HeldW.one {P : Program} {ws : List (Nat × N × Value)} {w : World} (h : HeldW P ws w) {x : Nat × N × Value} (hx : x ∈ ws) : Held P [x.2] w.heap := fun y hy => by
  rw [List.mem_singleton] at hy; subst hy
  exact h x.2 (List.mem_map.2 ⟨x, hx, rfl⟩)
theorem HeldW.k {P : Program} {ws : List (Nat × N × Value)} {w : World} (h : HeldW P ws w) (k : Nat) : HeldK P ws k w := fun _ hx _ => h.one hx
theorem HeldK.rest {P : Program} {ops : Array Oper} {i : Nat} {ws : List (Nat × N × Value)} {k : Nat} {w : World} (h : HeldK P (restW ops i ws) k w) : dropS ops i (HeldK P ws) k w := by
  by_cases hw : (waits ops k).elem i = true
  · exact .inl hw
  · refine .inr fun x hx hk => h x ?_ hk
    unfold restW
    exact List.mem_filter.2 ⟨hx, by subst hk; simpa using hw⟩

theorem yields_dry {P : Program} {ops : Array Oper} {o : Oper} {v : Value} {a : Act} {S : World → Prop} (hw : Region.wanted o (yielded ops a.tmps) = true)
    (h : dry P (execOp a.eval o) = some (.value v)) : YieldsIf P ops S o v a := .inl ⟨hw, fun w _ => run_dry h w⟩

/-- What is taken first: the state behind it, and what is held from then on. -/
theorem stepQ_sound {P : Program} {C : Cfg} {n : Nat} {i : Nat} {ops : Array Oper} {o : Oper} {ρ : Env} {ws : List (Nat × N × Value)} {k : Env → List (Nat × N × Value) → T}
    {QQ : List Value → Heap → Prop} {R : Option Nat → List Value → Heap → Prop} {a : Act} {w : World} (hf : Fits n ρ a) (hheld : HeldW P ws w)
    (hw : Region.wanted o (yielded ops a.tmps) = true) (h : wpH P QQ (stepQ C n i o ρ ws k) R w.heap) :
    ∃ v ws' ρ', (∀ k w, HeldK P ws' k w → HeldK P ws k w) ∧ HeldW P ws' w ∧ YieldsIf P ops (HeldK P ws' i) o v a ∧ Fits n ρ' (a.put o.dst v) ∧ wpH P QQ (k ρ' ws') R w.heap := by
  unfold stepQ at h
  split at h
  case isFalse => exact h.elim
  rename_i hkd
  rw [Bool.and_eq_true] at hkd
  obtain ⟨hkn, hd⟩ := hkd
  have hex := exec_toN hf hkn
  have hops := (known_spec hkn).2
  have hmove : ∀ x, execOp a.eval o = Pure.pure (Next.value (a.eval x)) → x ∈ o.op.operands → wpH P QQ (k (ρ.putD o.dst (ρ.ev x)) ws) R w.heap →
      ∃ v ws' ρ', (∀ k w, HeldK P ws' k w → HeldK P ws k w) ∧ HeldW P ws' w ∧ YieldsIf P ops (HeldK P ws' i) o v a ∧ Fits n ρ' (a.put o.dst v) ∧ wpH P QQ (k ρ' ws') R w.heap := fun x e hx h => by
    refine ⟨a.eval x, ws, _, fun _ _ h => h, hheld, yields_dry hw (by rw [e]; rfl), ?_, h⟩
    rw [← ev_eval hf x (hops x hx)]
    exact fits_putD hf hd _
  split at h
  · rename_i x e
    exact hmove x (by simp only [execOp, e]) (by simp [Op.operands, e]) h
  · rename_i x e
    exact hmove x (by simp only [execOp, e]) (by simp [Op.operands, e]) h
  · rename_i c x y e
    split at h
    · rename_i t hc
      have h1 : a.eval c = .bool t := by rw [← ev_eval hf c (hops c (by simp [Op.operands, e])), hc]; rfl
      have e1 : execOp a.eval o = Pure.pure (Next.value (a.eval (if t then x else y))) := by
        simp only [execOp, e, h1]
        cases t <;> rfl
      refine hmove (if t then x else y) e1 (by cases t <;> simp [Op.operands, e]) ?_
      cases t <;> exact h
    · obtain ⟨v, hv, hr⟩ := h
      have e1 : execOp a.eval o = N.sem (.pick (ρ.ev c).toValue (ρ.ev x).toValue (ρ.ev y).toValue) := by
        rw [ev_eval hf c (hops c (by simp [Op.operands, e])), ev_eval hf x (hops x (by simp [Op.operands, e])), ev_eval hf y (hops y (by simp [Op.operands, e]))]
        simp only [execOp, e, N.sem]
      exact ⟨v, ws, _, fun _ _ h => h, hheld, yields_dry hw (by rw [e1]; exact hv), fits_putD hf hd (.val v), hr⟩
  · split at h
    · obtain ⟨v, hv, hr⟩ := h
      exact ⟨v, ws, _, fun _ _ h => h, hheld, yields_dry hw (by rw [← hex]; exact hv), fits_putD hf hd (.val v), hr⟩
    · obtain ⟨v, hv, hr⟩ := h
      refine ⟨v, _, _, fun k w' h' x hx hk => h' x (List.mem_cons_of_mem _ hx) hk, ?_, .inl ⟨hw, fun w' h' => ?_⟩, fits_putD hf hd (.val v), hr⟩
      · intro x hx w' hw'
        rw [List.map_cons] at hx
        rcases List.mem_cons.1 hx with rfl | hx
        · exact hv w' hw'
        · exact hheld x hx w' hw'
      · rw [← hex]; exact h' _ List.mem_cons_self rfl _ (List.mem_singleton.2 rfl) w' rfl
    · exact h.elim

theorem treeD_sound {P : Program} {C : Cfg} {n : Nat} {ops : Array Oper} {κ : Env → T} {QQ : List Value → Heap → Prop} {R : Option Nat → List Value → Heap → Prop}
    {Q : Exit → Act → World → Prop} (hns : Region.noSelect ops = true) (hnp : ∀ c a w, ¬ Q (.panic c) a w) :
    ∀ (fuel : Nat) (listed : Array Bool) (ρ : Env) (ws : List (Nat × N × Value)) (a : Act) (w : World), Fits n ρ a → HeldW P ws w → Closed ops listed →
      wpH P QQ (treeD C n ops κ fuel listed ρ ws) R w.heap →
      (∀ ρ' a' w', Fits n ρ' a' → Fr (dstsOf ops.toList) a a' → Keeps w w' → wpH P QQ (κ ρ') R w'.heap → Q .normal a' w') →
      wpAnyS P ops Q fuel (HeldK P ws) listed a w := by
  intro fuel
  induction fuel with
  | zero =>
    intro listed ρ ws a w hf hh hcl h hK
    unfold treeD at h
    split at h
    · rename_i hr; exact ⟨hr, hK ρ a w hf (Fr.refl _ _) (Keeps.refl _) h⟩
    · exact h.elim
  | succ fuel ih =>
    intro listed ρ ws a w hf hh hcl h hK
    have hdst : ∀ {i : Nat} {o : Oper}, ops[i]? = some o → ∀ d ∈ o.dst.toList, d ∈ dstsOf ops.toList := fun {i o} ho d hd => by
      refine List.mem_flatMap.2 ⟨o, ?_, hd⟩
      exact Array.mem_toList_iff.2 (Array.mem_of_getElem? ho)
    -- going on behind operation o, whatever it left
    have goon : ∀ {i : Nat} {o : Oper} (_ : ops[i]? = some o) (_ : i ∈ Region.ready .any ops listed) (ρ' : Env) (ws' : List (Nat × N × Value)) (v : Value) (w' : World), Keeps w w' → Fits n ρ' (a.put o.dst v) → HeldW P ws' w' →
        wpH P QQ (treeD C n ops κ fuel (listed.setIfInBounds i true) ρ' ws') R w'.heap → wpAnyS P ops Q fuel (HeldK P ws') (listed.setIfInBounds i true) (a.put o.dst v) w' :=
      fun {i o} ho hi ρ' ws' v w' hk hf' hh' h' => ih _ ρ' ws' _ w' hf' hh' (hcl.set hi) h' fun ρ'' a'' w'' hf'' hfr hk' h'' =>
        hK ρ'' a'' w'' hf'' (((fr_put a o.dst v).mono (hdst ho)).trans hfr) (hk.trans hk') h''
    have hQ : ∀ (o : Oper) (v : Value) c (a : Act) w, Q (.panic c) (a.put o.dst v) w → Q (.panic c) a w := fun _ _ c _ w q => (hnp c _ w q).elim
    unfold treeD at h
    split at h
    · rename_i hr
      exact wpAnyS_done hr (hK ρ a w hf (Fr.refl _ _) (Keeps.refl _) h) _
    · rename_i i0 rs hready
      split at h
      · -- one is taken first
        rename_i i hfirst
        obtain ⟨hmem, hcand⟩ := firstOf_spec hfirst
        cases ho : ops[i]? with
        | none => rw [ho] at h; exact h.elim
        | some o =>
          rw [ho] at h
          dsimp only at h
          unfold cand at hcand
          rw [ho] at hcand
          dsimp only at hcand
          rw [Bool.and_eq_true] at hcand
          have hfree := hcand.2
          have hcont : i ∈ Region.ready .any ops listed := by rw [hready]; exact hmem
          have take : ∀ (ρ' : Env) (ws' : List (Nat × N × Value)) (v : Value), (∀ k w, HeldK P ws' k w → HeldK P ws k w) → HeldW P ws' w → YieldsIf P ops (HeldK P ws' i) o v a →
              Fits n ρ' (a.put o.dst v) → wpH P QQ (treeD C n ops κ fuel (listed.setIfInBounds i true) ρ' ws') R w.heap → wpAnyS P ops Q (fuel + 1) (HeldK P ws) listed a w :=
            fun ρ' ws' v hsub hh' hy hf' h' => wpAnyS_anti _ hsub _ _ _ (wpAnyS_take hcl ho hns hfree hcont (hQ o v) hy hh'.k (goon ho hcont ρ' ws' v w (Keeps.refl _) hf' hh' h'))
          have takeRun : ∀ ρ1, Fits n ρ1 a → Region.wanted o (yielded ops a.tmps) = true →
              wpH P QQ (stepQ C n i o ρ1 ws fun ρ' ws' => treeD C n ops κ fuel (listed.setIfInBounds i true) ρ' ws') R w.heap → wpAnyS P ops Q (fuel + 1) (HeldK P ws) listed a w := fun ρ1 hf1 hw h' => by
            obtain ⟨v, ws', ρ', h1, h2, h3, h4, h5⟩ := stepQ_sound hf1 hh hw h'
            exact take ρ' ws' v h1 h2 h3 h4 h5
          have takeSkip : ∀ ρ1, Fits n ρ1 a → Region.wanted o (yielded ops a.tmps) = false → dstOk n o = true →
              wpH P QQ (treeD C n ops κ fuel (listed.setIfInBounds i true) (ρ1.putD o.dst .und) ws) R w.heap → wpAnyS P ops Q (fuel + 1) (HeldK P ws) listed a w := fun ρ1 hf1 hw hd h' =>
            take _ ws undef (fun _ _ h => h) hh (.inr ⟨hw, rfl⟩) (fits_putD hf1 hd .und) h'
          unfold guarded at h
          split at h
          · rename_i hg; exact takeRun ρ hf (guardOf_run hf hg) h
          · rename_i hg
            split at h
            · rename_i hd; exact takeSkip ρ hf (guardOf_skip hf hg) hd h
            · exact h.elim
          · rename_i d c want hg
            obtain ⟨hd, hwn⟩ := guardOf_ask hf hg
            split at h
            case isFalse => exact h.elim
            rename_i hdo
            rcases h with ⟨hc, h⟩ | ⟨hc, h⟩
            · have hf' : Fits n (ρ.put d (.lit true)) a := fits_known hf hd (.lit true) (by rw [hc]; rfl)
              have := hwn true hc
              cases want
              · exact takeSkip _ hf' (by rw [this]; rfl) hdo h
              · exact takeRun _ hf' (by rw [this]; rfl) h
            · have hf' : Fits n (ρ.put d (.lit false)) a := fits_known hf hd (.lit false) (by rw [hc]; rfl)
              have := hwn false hc
              cases want
              · exact takeRun _ hf' (by rw [this]; rfl) h
              · exact takeSkip _ hf' (by rw [this]; rfl) hdo h
          · exact h.elim
      · -- whichever comes up
        refine wpAnyS_all hready (by simp) fun i hi => ?_
        have hmemr : i ∈ Region.ready .any ops listed := by rw [hready]; exact hi
        have h := allT_spec h i hi
        unfold wpOp
        cases ho : ops[i]? with
        | none => rw [ho] at h; exact h.elim
        | some o =>
          rw [ho] at h
          dsimp only at h ⊢
          have doRun : ∀ ρ1, Fits n ρ1 a → wpH P QQ (stepW n o ρ1 (restW ops i ws) fun ρ' => treeD C n ops κ fuel (listed.setIfInBounds i true) ρ' (restW ops i ws)) R w.heap →
              o.wp P a w (fun a' w' => (∀ k, dropS ops i (HeldK P ws) k w') ∧ wpAnyS P ops Q fuel (dropS ops i (HeldK P ws)) (listed.setIfInBounds i true) a' w') Q := fun ρ1 hf1 h' => by
            unfold stepW at h'
            split at h'
            case isFalse => exact h'.elim
            rename_i hkd
            rw [Bool.and_eq_true] at hkd
            unfold Oper.wp
            rw [← exec_toN hf1 hkd.1]
            exact upon_of_ok (h' w rfl) fun v w' hk hr => ⟨fun k => (HeldW.k (ws := restW ops i ws) hr.1 k).rest, wpAnyS_anti _ (fun k w h => h.rest) _ _ _ (goon ho hmemr _ (restW ops i ws) v w' hk (fits_putD hf1 hkd.2 (.val v)) hr.1 hr.2)⟩
          have doSkip : ∀ ρ1, Fits n ρ1 a → dstOk n o = true → wpH P QQ (treeD C n ops κ fuel (listed.setIfInBounds i true) (ρ1.putD o.dst .und) ws) R w.heap →
              (∀ k, dropS ops i (HeldK P ws) k w) ∧ wpAnyS P ops Q fuel (dropS ops i (HeldK P ws)) (listed.setIfInBounds i true) (a.put o.dst undef) w := fun ρ1 hf1 hd h' =>
            ⟨fun k => .inr (hh.k k), wpAnyS_anti _ (fun k w h => .inr h) _ _ _ (goon ho hmemr _ ws undef w (Keeps.refl _) (fits_putD hf1 hd .und) hh h')⟩
          unfold guarded at h
          split at h
          · rename_i hg
            rw [if_pos (guardOf_run hf hg)]
            exact .inl (doRun ρ hf h)
          · rename_i hg
            rw [if_neg (by rw [guardOf_skip hf hg]; simp)]
            split at h
            · rename_i hd; exact doSkip ρ hf hd h
            · exact h.elim
          · rename_i d c want hg
            obtain ⟨hd, hwn⟩ := guardOf_ask hf hg
            split at h
            case isFalse => exact h.elim
            rename_i hdo
            rcases h with ⟨hc, h⟩ | ⟨hc, h⟩
            · have hf' : Fits n (ρ.put d (.lit true)) a := fits_known hf hd (.lit true) (by rw [hc]; rfl)
              have := hwn true hc
              cases want
              · rw [if_neg (by rw [this]; simp)]; exact doSkip _ hf' hdo h
              · rw [if_pos (by rw [this]; simp)]; exact .inl (doRun _ hf' h)
            · have hf' : Fits n (ρ.put d (.lit false)) a := fits_known hf hd (.lit false) (by rw [hc]; rfl)
              have := hwn false hc
              cases want
              · rw [if_pos (by rw [this]; simp)]; exact .inl (doRun _ hf' h)
              · rw [if_neg (by rw [this]; simp)]; exact doSkip _ hf' hdo h
          · exact h.elim

theorem treeR_sound {P : Program} {C : Cfg} {n : Nat} {id : Nat} {ops : Array Oper} {draw : Bool} {κ : Env → T} {QQ : List Value → Heap → Prop} {R : Option Nat → List Value → Heap → Prop}
    {Q : Exit → Act → World → Prop} (hm : P.follows .mixedOrders = true) (hnp : ∀ c a w, ¬ Q (.panic c) a w) {ρ : Env} {a : Act} {w : World} (hf : Fits n ρ a)
    (h : wpH P QQ (treeR C n ops draw ρ κ) R w.heap)
    (hK : ∀ ρ' a' w', Fits n ρ' a' → Fr (dstsOf ops.toList) a a' → Keeps w w' → wpH P QQ (κ ρ') R w'.heap → Q .normal a' w') : (Code.region id ops draw).wp P Q a w := by
  unfold treeR at h
  cases draw
  · exact wp_region_list (treeL_sound ops.toList ρ a w hf h hK)
  · rw [if_pos rfl] at h
    split at h
    · rename_i hns
      refine wp_region_any hm (wpAny_of_S _ _ _ _ _ (treeD_sound hns hnp _ _ ρ [] a _ hf (by intro x hx; cases hx) (by intro j o _ hl; simp [Array.getElem?_replicate] at hl; split at hl <;> simp at hl) h fun ρ' a' w' hf' hfr hk h' => hK ρ' a' w' hf' hfr ⟨hk.os, hk.tape, hk.output⟩ h'))
    · exact h.elim

/-! ### Slots carried as a list -/

def slotsOf (L : List Nat) (a : Act) : List Value := L.map fun i => a.tmps.getD i undef

theorem gets_spec {n : Nat} {ρ : Env} {a : Act} (hf : Fits n ρ a) : ∀ {L : List Nat} {vs : List Value}, ρ.gets L = some vs → vs = slotsOf L a ∧ ∀ i ∈ L, i < n
  | [], vs, h => by simp [Env.gets] at h; subst h; exact ⟨rfl, by simp⟩
  | i :: L, vs, h => by
    simp only [Env.gets] at h
    split at h
    · rename_i v vs' hv hvs
      cases h
      obtain ⟨e, hl⟩ := gets_spec hf hvs
      have hi := hf.2 i v hv
      refine ⟨?_, ?_⟩
      · simp only [slotsOf, List.map_cons, List.cons.injEq]
        exact ⟨by rw [Array.getD_eq_getD_getElem?, hi]; rfl, e⟩
      · intro j hj
        rcases List.mem_cons.1 hj with rfl | hj
        · have := (Array.getElem?_eq_some_iff.1 hi).1; rw [hf.1] at this; exact this
        · exact hl j hj
    · cases h

theorem fits_drop {n : Nat} {ρ : Env} {a a' : Act} {D : List Nat} (hf : Fits n ρ a) (hs : a'.tmps.size = n) (hfr : Fr D a a') : Fits n (ρ.drop D) a' := by
  refine ⟨hs, fun i v hi => ?_⟩
  simp only [Env.drop] at hi
  split at hi
  · cases hi
  · rename_i hn
    rw [hfr.2 i (fun hm => hn (List.elem_iff.2 hm))]
    exact hf.2 i v hi

theorem fits_setsFrom {n : Nat} {ρ : Env} {a : Act} (hf : Fits n ρ a) {vs : List Value} : ∀ {L : List Nat} {k : Nat}, (∀ i ∈ L, i < n) → (∀ j i, L[j]? = some i → sl vs (k + j) = a.tmps.getD i undef) → Fits n (ρ.setsFrom vs L k) a
  | [], _, _, _ => hf
  | i :: L, k, h, hv => by
    have ih := fits_setsFrom hf (vs := vs) (L := L) (k := k + 1) (fun j hj => h j (List.mem_cons_of_mem _ hj)) fun j x hx => by
      have := hv (j + 1) x (by simpa using hx)
      rw [← this]; congr 1; omega
    refine ⟨hf.1, fun j v hj => ?_⟩
    simp only [Env.setsFrom, Env.put] at hj
    by_cases e : j = i
    · subst e
      have h0 := hv 0 j (by simp)
      rw [Nat.add_zero] at h0
      have hlt : j < a.tmps.size := by rw [hf.1]; exact h j (by simp)
      simp [h0] at hj
      subst hj
      simp [V.toValue, hlt]
    · have : Nat.beq j i = false := by
        cases hb : Nat.beq j i with
        | false => rfl
        | true => exact absurd (Nat.eq_of_beq_eq_true hb) e
      rw [this] at hj
      exact ih.2 j v (by simpa using hj)

theorem fits_sets {n : Nat} {ρ : Env} {a : Act} (hf : Fits n ρ a) {L : List Nat} (h : ∀ i ∈ L, i < n) : Fits n (ρ.sets L (slotsOf L a)) a :=
  fits_setsFrom hf h fun j i hi => by
    unfold sl slotsOf
    rw [Nat.zero_add, List.getD_eq_getElem?_getD, List.getElem?_map, hi]
    rfl

def exitOf : Option Nat → Exit
  | none => .normal
  | some id => .exit id

theorem leafOf_spec {P : Program} {QQ : List Value → Heap → Prop} {R : Option Nat → List Value → Heap → Prop} {n : Nat} {ρ : Env} {a : Act} {H : Heap} {L : List Nat} {e : Option Nat} (hf : Fits n ρ a)
    (h : wpH P QQ (leafOf ρ L e) R H) : R e (slotsOf L a) H ∧ ∀ i ∈ L, i < n := by
  unfold leafOf at h
  split at h
  · rename_i vs hvs
    obtain ⟨e1, hl⟩ := gets_spec hf hvs
    subst e1
    exact ⟨h, hl⟩
  · exact h.elim

def resOne (tmps : Array Value) : ResultVar → Sem Value
  | .tmp t => pure (tmps.getD t undef)
  | .cell b t => do loadVar t (← asAddr (tmps.getD b undef))

/-- What a function's results read as at its end. -/
def ResRun (P : Program) (rs : List ResultVar) (a : Act) (w : World) (vs : List Value) : Prop := (rs.mapM (m := Sem) (resOne a.tmps)).run P w = .ok vs w

theorem resv_run {P : Program} {t : TypeId} {a u : Value} {w : World} (h : (N.resv t a).sem.run P w = .ok (.value u) w) :
    (do loadVar t (← asAddr a) : Sem Value).run P w = .ok u w := by
  simp only [N.sem, Sem.run_bind] at h
  generalize hr : Sem.run P (do loadVar t (← asAddr a) : Sem Value) w = r at h
  have hr' : Result.andThen r (fun a w => Sem.run P (Pure.pure (Next.value a)) w) = .ok (.value u) w := by
    rw [← hr]; simpa [Sem.run_bind] using h
  cases r with
  | ok v w' =>
    simp [Result.andThen] at hr'
    obtain ⟨rfl, rfl⟩ := hr'
    rfl
  | halt x w' => simp [Result.andThen] at hr'

theorem retT_spec {P : Program} {QQ : List Value → Heap → Prop} {R : Option Nat → List Value → Heap → Prop} {n : Nat} {ρ : Env} {a : Act} {w : World} (hf : Fits n ρ a) :
    ∀ (rs : List ResultVar) (acc : List Value), wpH P QQ (retT rs ρ acc) R w.heap → ∃ vs, ResRun P rs a w vs ∧ QQ (acc.reverse ++ vs) w.heap
  | [], acc, h => ⟨[], rfl, by rw [List.append_nil]; exact h⟩
  | .tmp t :: l, acc, h => by
    unfold retT at h
    split at h
    · rename_i v hv
      obtain ⟨vs, hr, hq⟩ := retT_spec hf l _ h
      refine ⟨v.toValue :: vs, ?_, by simpa using hq⟩
      have ht := hf.2 t v hv
      unfold ResRun at *
      simp only [List.mapM_cons]
      simp [resOne, ht, hr]
    · exact h.elim
  | .cell b t :: l, acc, h => by
    unfold retT at h
    split at h
    · rename_i v hv
      obtain ⟨u, hu, h⟩ := h
      obtain ⟨vs, hr, hq⟩ := retT_spec hf l _ h
      refine ⟨u :: vs, ?_, by simpa using hq⟩
      have ht := hf.2 b v hv
      have h1 := resv_run (hu w rfl)
      have e : a.tmps.getD b undef = v.toValue := by rw [Array.getD_eq_getD_getElem?, ht]; rfl
      unfold ResRun at *
      rw [← e] at h1
      simp only [List.mapM_cons, Sem.run_bind, resOne]
      simp only [Sem.run_bind] at h1
      rw [h1]
      simp [hr]
    · exact h.elim

theorem treeC_sound {P : Program} {C : Cfg} {n : Nat} {rs : List ResultVar} {QQ : List Value → Heap → Prop} (hm : P.follows .mixedOrders = true) (c : Code) :
    ∀ (ρ : Env) (κ : Option Nat → Env → T) (R : Option Nat → List Value → Heap → Prop) (Q : Exit → Act → World → Prop) (a : Act) (w : World),
      Fits n ρ a → wpH P QQ (treeC C n rs c ρ κ) R w.heap → (∀ c a w, ¬ Q (.panic c) a w) →
      (∀ a' w' vs, a'.defers = a.defers → Keeps w w' → ResRun P rs a' w' vs → QQ vs w'.heap → Q .ret a' w') →
      (∀ e ρ' a' w', Fits n ρ' a' → Fr (cdsts c) a a' → Keeps w w' → wpH P QQ (κ e ρ') R w'.heap → Q (exitOf e) a' w') → c.wp P Q a w := by
  induction c with
  | skip =>
    intro ρ κ R Q a w hf h hnp hret hK
    exact wp_skip (hK none ρ a w hf (Fr.refl _ _) (Keeps.refl _) h)
  | exit id =>
    intro ρ κ R Q a w hf h hnp hret hK
    exact wp_exit (hK (some id) ρ a w hf (Fr.refl _ _) (Keeps.refl _) h)
  | ret =>
    intro ρ κ R Q a w hf h hnp hret hK
    unfold treeC at h
    obtain ⟨vs, hr, hq⟩ := retT_spec hf rs [] h
    exact wp_ret (hret a w vs rfl (Keeps.refl _) hr hq)
  | region id ops draw =>
    intro ρ κ R Q a w hf h hnp hret hK
    unfold treeC at h
    split at h
    · rename_i L hL
      refine treeR_sound hm hnp hf h fun ρ' a' w' hf' hfr hk h' => ?_
      obtain ⟨h1, hl⟩ := leafOf_spec hf' h'
      exact hK none _ a' w' (fits_sets (fits_drop hf hf'.1 hfr) hl) hfr hk h1
    · exact treeR_sound hm hnp hf h fun ρ' a' w' hf' hfr hk h' => hK none ρ' a' w' hf' hfr hk h'
  | seq x y ihx ihy =>
    intro ρ κ R Q a w hf h hnp hret hK
    have hnp' : ∀ c a w, ¬ Exit.then (y.wp P Q) Q (.panic c) a w := hnp
    have hx : ∀ i ∈ cdsts x, i ∈ cdsts (.seq x y) := fun i hi => List.mem_append_left _ hi
    have hy : ∀ i ∈ cdsts y, i ∈ cdsts (.seq x y) := fun i hi => List.mem_append_right _ hi
    -- going on behind x
    have goon : ∀ ρ1 a1 w1, Fits n ρ1 a1 → Fr (cdsts x) a a1 → Keeps w w1 → wpH P QQ (treeC C n rs y ρ1 κ) R w1.heap → y.wp P Q a1 w1 := fun ρ1 a1 w1 hf1 hfr1 hk1 h1 =>
      ihy ρ1 κ R Q a1 w1 hf1 h1 hnp (fun a' w' vs hd hk hr q => hret a' w' vs (hd.trans hfr1.1) (hk1.trans hk) hr q)
        fun e ρ' a' w' hf' hfr' hk' h' => hK e ρ' a' w' hf' ((hfr1.mono hx).trans (hfr'.mono hy)) (hk1.trans hk') h'
    unfold treeC at h
    refine wp_seq ?_
    split at h
    · rename_i L hL
      refine ihx ρ _ _ _ a w hf h hnp' hret fun e ρ' a' w' hf' hfr hk h' => ?_
      obtain ⟨h1, hl⟩ := leafOf_spec hf' h'
      have hf2 := fits_sets (fits_drop hf hf'.1 hfr) hl
      cases e with
      | none => exact goon _ a' w' hf2 hfr hk h1
      | some id => exact hK (some id) _ a' w' hf2 (hfr.mono hx) hk h1
    · refine ihx ρ _ _ _ a w hf h hnp' hret fun e ρ' a' w' hf' hfr hk h' => ?_
      cases e with
      | none => exact goon ρ' a' w' hf' hfr hk h'
      | some id => exact hK (some id) ρ' a' w' hf' (hfr.mono hx) hk h'
  | cond c x y ihx ihy =>
    intro ρ κ R Q a w hf h hnp hret hK
    have hx : ∀ i ∈ cdsts x, i ∈ cdsts (.cond c x y) := fun i hi => List.mem_append_left _ hi
    have hy : ∀ i ∈ cdsts y, i ∈ cdsts (.cond c x y) := fun i hi => List.mem_append_right _ hi
    have hev : ∀ v, ρ.ev c = v → v ≠ .und → a.eval c = v.toValue := fun v hv hne => by
      rw [← hv]
      refine (ev_eval hf c fun t ht => ?_).symm
      subst ht
      simp only [Env.ev] at hv
      cases hρ : ρ t with
      | some u => rfl
      | none => rw [hρ] at hv; exact absurd hv.symm hne
    have dox : wpH P QQ (treeC C n rs x ρ κ) R w.heap → x.wp P Q a w := fun h => ihx ρ κ R Q a w hf h hnp hret fun e ρ' a' w' hf' hfr hk h' => hK e ρ' a' w' hf' (hfr.mono hx) hk h'
    have doy : wpH P QQ (treeC C n rs y ρ κ) R w.heap → y.wp P Q a w := fun h => ihy ρ κ R Q a w hf h hnp hret fun e ρ' a' w' hf' hfr hk h' => hK e ρ' a' w' hf' (hfr.mono hy) hk h'
    unfold treeC at h
    split at h
    · rename_i t ht
      have h1 := hev _ ht (by simp)
      cases t
      · exact wp_cond_false h1 (doy h)
      · exact wp_cond_true h1 (dox h)
    · rename_i v hv
      have h1 := hev _ hv (by simp)
      rcases h with ⟨hc, h⟩ | ⟨hc, h⟩
      · exact wp_cond_true (h1.trans hc) (dox h)
      · exact wp_cond_false (h1.trans hc) (doy h)
    · exact h.elim
  | block id c ih =>
    intro ρ κ R Q a w hf h hnp hret hK
    unfold treeC at h
    refine wp_block (ih ρ _ R _ a w hf h (fun c a w => hnp c a w) (fun a' w' vs hd hk hr q => hret a' w' vs hd hk hr q) fun e ρ' a' w' hf' hfr hk h' => ?_)
    cases e with
    | none => exact hK none ρ' a' w' hf' hfr hk h'
    | some j =>
      dsimp only at h'
      show Exit.inBlock id Q (.exit j) a' w'
      simp only [Exit.inBlock]
      by_cases e : j = id
      · subst e
        rw [if_pos (Nat.beq_refl j)] at h'
        rw [if_pos rfl]
        exact hK none ρ' a' w' hf' hfr hk h'
      · rw [if_neg e]
        rw [if_neg (by intro hb; exact e (Nat.eq_of_beq_eq_true hb))] at h'
        exact hK (some j) ρ' a' w' hf' hfr hk h'
  | loop c ih =>
    intro ρ κ R Q a w hf h hnp hret hK
    unfold treeC at h
    split at h
    case h_2 => exact h.elim
    rename_i L hL
    split at h
    case h_2 => exact h.elim
    rename_i s hs
    obtain ⟨e0, hl⟩ := gets_spec hf hs
    subst e0
    obtain ⟨I, m, hI0, hround⟩ := h
    refine wp_loop (fun a' w' => Fits n (ρ.drop (cdsts c)) a' ∧ Fr (cdsts c) a a' ∧ Keeps w w' ∧ I (slotsOf L a') w'.heap) (fun a' w' => m (slotsOf L a') w'.heap)
      ⟨fits_drop hf hf.1 (Fr.refl _ _), Fr.refl _ _, Keeps.refl _, hI0⟩ ?_
    rintro a1 w1 ⟨hf1, hfr1, hk1, hI1⟩
    have hb := hround _ _ hI1
    refine ih _ _ _ _ a1 w1 (fits_sets hf1 hl) hb (fun c a w => hnp c a w) (fun a' w' vs hd hk hr q => hret a' w' vs (hd.trans hfr1.1) (hk1.trans hk) hr q) ?_
    intro e ρ' a' w' hf' hfr' hk' h'
    obtain ⟨h1, _⟩ := leafOf_spec hf' h'
    have hfr2 := hfr1.trans hfr'
    cases e with
    | none => exact ⟨⟨fits_drop hf hf'.1 hfr2, hfr2, hk1.trans hk', h1.1⟩, h1.2⟩
    | some id => exact hK (some id) _ a' w' (fits_sets (fits_drop hf hf'.1 hfr2) hl) hfr2 (hk1.trans hk') h1
  | rangeFunc f ps as b _ _ => intro ρ κ R Q a w hf h; exact h.elim
  | scope c ih =>
    intro ρ κ R Q a w hf h hnp hret hK
    unfold treeC at h
    refine wp_scope_straight (ih ρ κ R _ a w hf h (fun c a w => hnp c a w) (fun a' w' vs hd hk hr q => hret a' w' vs hd hk hr q) fun e ρ' a' w' hf' hfr hk h' => ?_)
    have := hK e ρ' a' w' hf' hfr hk h'
    cases e <;> exact this
  | label l =>
    intro ρ κ R Q a w hf h hnp hret hK
    exact wp_label (hK none ρ a w hf (Fr.refl _ _) (Keeps.refl _) h)
  | goto l => intro ρ κ R Q a w hf h; exact h.elim
  | refuse s => intro ρ κ R Q a w hf h; exact h.elim

theorem results_run {fn : Func} {P : Program} {a : Act} {w : World} {vs : List Value} (h : ResRun P fn.results.toList a w vs) :
    (results fn a.tmps).run P w = .ok (retVal vs) w := by
  have e : results fn a.tmps = (do
      let vs ← fn.results.mapM (m := Sem) (resOne a.tmps)
      pure (if h : vs.size = 1 then vs[0] else .tuple vs)) := rfl
  unfold ResRun at h
  rw [e, ← Array.toArray_toList (xs := fn.results)]
  simp only [List.mapM_toArray]
  simp [h]
  match vs with
  | [] => rfl
  | [v] => rfl
  | v :: u :: vs => simp [retVal]

theorem callsH_of_tree {P : Program} {f : FuncId} {fn : Func} (C : Cfg) {args : List Value} {H : Heap} {Q : Value → Heap → Prop} (hm : P.follows .mixedOrders = true) (hf : P.funcs[f]? = some fn)
    (h : wpH P (fun vs H' => Q (retVal vs) H') (treeF C fn args) (fun _ _ _ => False) H) : CallsH P f args.toArray H Q := by
  intro w hw
  subst hw
  unfold treeF at h
  split at h
  case h_2 => exact h.elim
  rename_i c hb
  split at h
  case isFalse => exact h.elim
  rename_i hle
  have hle := Nat.le_of_ble_eq_true hle
  refine calls_of_wp hf hb (treeC_sound hm c _ _ _ _ _ w ?_ h ?_ ?_ ?_)
  · refine ⟨by simp; omega, fun i v hi => ?_⟩
    simp only [env0] at hi
    split at hi
    · rename_i u hu
      cases hi
      have hlt : i < args.length := (List.getElem?_eq_some_iff.1 hu).1
      simp [hlt, V.toValue] at hu ⊢
      rw [Array.getElem?_append_left (by simpa using hlt)]
      simp [hlt, hu]
    · rename_i hn
      split at hi
      · rename_i hlt
        cases hi
        have hge : args.length ≤ i := by simpa using hn
        have hlt : i < fn.ntmps := Nat.le_of_ble_eq_true hlt
        show (args.toArray ++ Array.replicate (fn.ntmps - args.toArray.size) undef)[i]? = some undef
        rw [Array.getElem?_append_right (by simpa using hge), Array.getElem?_replicate, if_pos (by simp; omega)]
      · cases hi
  · intro c a w hq; obtain ⟨_, v, hv, _⟩ := hq; cases hv
  · intro a' w' vs hd hk hr q
    exact ⟨hd, _, results_run hr, _, rfl, hk, q⟩
  · intro e ρ' a' w' hf' hfr hk h'
    cases e with
    | some id => exact h'.elim
    | none =>
      obtain ⟨vs, hr, hq⟩ := retT_spec hf' _ [] h'
      exact ⟨hfr.1, _, results_run hr, _, rfl, hk, hq⟩

end Go.Tr
