/- Maps in the heap: look up, put, drop, entries, length, walks. Condition: the key type's law (KeyX). -/
import Derived.Test.YtgjafaheglnheaaGreatDoorHsCWm
import Derived.MapKept
set_option maxRecDepth 20000
namespace Go.Tr
open Go Go.MapKept

/-- The entries of a map: keys as they are written, values, birth numbers. -/
abbrev Ent (α : Type) := α × Value × Nat
def ents {α : Type} (enc : α → Value) (es : List (Ent α)) : List MapEntry := es.map fun e => ⟨enc e.1, e.2.1, e.2.2⟩

/-- The first entry of a key. -/
def findE {α : Type} [DecidableEq α] (a : α) : List (Ent α) → Nat → Option (Nat × Value)
  | [], _ => none
  | e :: es, i => if e.1 = a then some (i, e.2.1) else findE a es (i + 1)

/-- What a key type must keep. -/
structure KeyX (P : Program) (kt : TypeId) {α : Type} [DecidableEq α] (enc : α → Value) : Prop where
  check : ∀ (w : World) (em : Bool) (a : α), (Instr.checkKey em 10000 kt (enc a)).run P w = .ok () w
  find : ∀ (w : World) (a : α) (es : List (Ent α)), (Instr.findKey kt (enc a) (ents enc es)).run P w = .ok (findE a es 0) w
  stay : ∀ (w : World) (a : α), (Instr.keyThatStays (enc a) (enc a)).run P w = .ok (enc a) w

theorem findNow_ents {kd : IntKind} (a : Int) : ∀ (es : List (Ent Int)) (i : Nat), Instr.findNow (.int kd) (.int kd a) (ents (.int kd) es) i = some (findE a es i)
  | [], _ => rfl
  | e :: es, i => by
    have ih := findNow_ents (kd := kd) a es (i + 1)
    unfold ents at ih
    simp only [ents, List.map_cons, Instr.findNow, Instr.sameNow, if_true, findE]
    by_cases h : e.1 = a
    · simp [h]
    · have h2 : (a == e.1) = false := by simpa using Ne.symm h
      simp [h, h2, ih]

theorem keyX_int {P : Program} {kt : TypeId} {kd : IntKind} (h : P.underlying kt = some (.int kd)) : KeyX P kt (fun a => Value.int kd a) where
  check w em a := run_checkKey h (by simp [IsKey]) em 9999
  find w a es := run_findKey h (findNow_ents a es 0)
  stay w a := run_keyThatStays (d := .int kd) (by simp [IsKey])

/-- A map that lies in the heap. -/
structure MapR {α : Type} (enc : α → Value) (H : Heap) (b : Nat) (es : List (Ent α)) (clock : Nat) : Prop where
  get : H[b]? = some (.map (ents enc es).toArray clock)
  lt : ∀ e ∈ es, e.2.2 < clock
  nd : (es.map (·.2.2)).Nodup

/-- The heap with another map in the place. -/
def setM (H : Heap) (b : Nat) (o : Obj) : Heap := H.setIfInBounds b o
theorem get_setM {H : Heap} {b : Nat} {o o' : Obj} (h : H[b]? = some o) : (setM H b o')[b]? = some o' := by
  have := blk_lt h
  simp [setM, this]
theorem get_setM_ne {H : Heap} {b k : Nat} {o : Obj} (h : k ≠ b) : (setM H b o)[k]? = H[k]? := by simp [setM, Ne.symm h]
@[simp] theorem size_setM {H : Heap} {b : Nat} {o : Obj} : (setM H b o).size = H.size := by simp [setM]
theorem Mod.setM {H : Heap} {b : Nat} {o : Obj} {S : List Nat} (hb : b ∈ S) : Mod H (setM H b o) S :=
  ⟨by simp, fun k _ hn => get_setM_ne fun e => hn (e ▸ hb)⟩
theorem setM_self {H : Heap} {b : Nat} {o : Obj} (h : H[b]? = some o) : setM H b o = H := by
  have hl := blk_lt h
  apply Array.ext
  · simp [setM]
  · intro i h1 h2
    have e1 : (Go.Tr.setM H b o)[i]? = H[i]? := by
      by_cases hi : i = b
      · subst hi; rw [get_setM h, h]
      · exact get_setM_ne hi
    rw [Array.getElem?_eq_getElem h1, Array.getElem?_eq_getElem h2] at e1
    exact Option.some.inj e1

theorem findE_some {α : Type} [DecidableEq α] {a : α} : ∀ {es : List (Ent α)} {i j : Nat} {v : Value}, findE a es i = some (j, v) → i ≤ j ∧ ∃ s, es[j - i]? = some (a, v, s)
  | [], _, _, _, h => by cases h
  | e :: es, i, j, v, h => by
    simp only [findE] at h
    split at h
    · rename_i h1
      obtain ⟨rfl, rfl⟩ := Prod.mk.inj (Option.some.inj h)
      exact ⟨Nat.le_refl _, e.2.2, by simp [← h1]⟩
    · obtain ⟨h1, s, h2⟩ := findE_some h
      exact ⟨by omega, s, by rw [show j - i = (j - (i + 1)) + 1 by omega]; simpa using h2⟩
theorem findE_none {α : Type} [DecidableEq α] {a : α} : ∀ {es : List (Ent α)} {i : Nat}, findE a es i = none ↔ ∀ e ∈ es, e.1 ≠ a
  | [], _ => by simp [findE]
  | e :: es, i => by
    simp only [findE]
    split
    · rename_i h1; simp [h1]
    · rename_i h1
      rw [findE_none]
      simp [h1]

section
variable {P : Program} {Q : List Value → Heap → Prop} {R : Option Nat → List Value → Heap → Prop} {H : Heap} {α : Type} {enc : α → Value} {t kt et : TypeId} {b c : Nat} {es : List (Ent α)} {a : α}

theorem MapR.of_mod {H' : Heap} {S : List Nat} (h : MapR enc H b es c) (m : Mod H H' S) (hb : b ∉ S) : MapR enc H' b es c := ⟨m.get h.get hb, h.lt, h.nd⟩
theorem MapR.blk_lt (h : MapR enc H b es c) : b < H.size := Tr.blk_lt h.get
theorem MapR.new : MapR enc (H.push (.map #[] 0)) H.size [] 0 := ⟨by simp [ents], by simp, by simp⟩

theorem run_lookup [DecidableEq α] (K : KeyX P kt enc) (ht : P.underlying t = some (.map kt et)) {z : Value} (hz : zeroT P et = some z) {w : World} (h : MapR enc w.heap b es c) (ok : Bool) :
    (Instr.lookup t (.map (some b)) (enc a) ok).run P w = .ok (if ok then .tuple #[((findE a es 0).map (·.2)).getD z, .bool (findE a es 0).isSome] else ((findE a es 0).map (·.2)).getD z) w := by
  have hz' : (zeroValue et).run P w = .ok z w := by
    unfold zeroT at hz
    obtain ⟨i, hi, hz⟩ := Option.bind_eq_some_iff.1 hz
    simp [zeroValue, typeInfo, hi, hz]
  cases hf : findE a es 0 with
  | none => cases ok <;> simp [Instr.lookup, run_underlying ht, run_getObj_map h.get, K.check, K.find, hf, hz', Result.andThen]
  | some x => cases ok <;> simp [Instr.lookup, run_underlying ht, run_getObj_map h.get, K.check, K.find, hf, Result.andThen]

theorem wpH_lookup [DecidableEq α] (K : KeyX P kt enc) (ht : P.underlying t = some (.map kt et)) {z : Value} (hz : zeroT P et = some z) (h : MapR enc H b es c) {k : Value → T} :
    wpH P Q (.look (.lookup t (.map (some b)) (enc a) false) k) R H = wpH P Q (k (((findE a es 0).map (·.2)).getD z)) R H :=
  look_eq fun w hw => by subst hw; simp [N.sem, run_lookup K ht hz h false]
theorem wpH_lookup_ok [DecidableEq α] (K : KeyX P kt enc) (ht : P.underlying t = some (.map kt et)) {z : Value} (hz : zeroT P et = some z) (h : MapR enc H b es c) {k : Value → T} :
    wpH P Q (.look (.lookup t (.map (some b)) (enc a) true) k) R H = wpH P Q (k (.tuple #[((findE a es 0).map (·.2)).getD z, .bool (findE a es 0).isSome])) R H :=
  look_eq fun w hw => by subst hw; simp [N.sem, run_lookup K ht hz h true]

theorem ents_push (x : Ent α) : ents enc es ++ [⟨enc x.1, x.2.1, x.2.2⟩] = ents enc (es ++ [x]) := by simp [ents]
theorem ents_modify {j : Nat} (f : MapEntry → MapEntry) (g : Ent α → Ent α) (h : ∀ e, es[j]? = some e → f ⟨enc e.1, e.2.1, e.2.2⟩ = ⟨enc (g e).1, (g e).2.1, (g e).2.2⟩) :
    (ents enc es).modify j f = ents enc (es.modify j g) := by
  apply List.ext_getElem?
  intro i
  simp only [ents, List.getElem?_modify, List.getElem?_map]
  by_cases hi : j = i
  · subst hi
    cases he : es[j]? with
    | none => simp
    | some e => simp [h e he]
  · simp [hi]
theorem ents_key {j : Nat} {v : Value} {s : Nat} (h : es[j]? = some (a, v, s)) : (Option.map (·.key) (ents enc es)[j]?).getD (enc a) = enc a := by simp [ents, h]
theorem ents_born {j : Nat} {v : Value} {s : Nat} (h : es[j]? = some (a, v, s)) : (Option.map (·.born) (ents enc es)[j]?).getD 0 = s := by simp [ents, h]

theorem ents_bornZ {j : Nat} {v : Value} {s : Nat} (h : es[j]? = some (a, v, s)) : (Option.map (fun x : MapEntry => ((x.born : Nat) : Int)) (ents enc es)[j]?).getD 0 = (s : Int) := by simp [ents, h]

/-- Putting a value: what the list becomes. -/
def putE [DecidableEq α] (a : α) (v : Value) (c : Nat) (es : List (Ent α)) : List (Ent α) := match findE a es 0 with
  | some (j, _) => es.modify j fun e => (e.1, v, e.2.2)
  | none => es ++ [(a, v, c)]
def putC [DecidableEq α] (a : α) (c : Nat) (es : List (Ent α)) : Nat := if (findE a es 0).isSome then c else c + 1

theorem modify_id {α : Type} (l : List α) (j : Nat) (f : α → α) (h : ∀ e, l[j]? = some e → f e = e) : l.modify j f = l := by
  apply List.ext_getElem?
  intro i
  rw [List.getElem?_modify]
  by_cases hi : j = i
  · subst hi
    cases he : l[j]? with
    | none => simp
    | some e => simp [h e he]
  · simp [hi]

theorem run_mapUpd [DecidableEq α] (K : KeyX P kt enc) (ht : P.underlying t = some (.map kt et)) {w : World} (h : MapR enc w.heap b es c) {v : Value} :
    (Instr.mapUpdate t (.map (some b)) (enc a) v).run P w = .ok () { w with heap := setM w.heap b (.map (ents enc (putE a v c es)).toArray (putC a c es)) } := by
  cases hf : findE a es 0 with
  | none =>
    simp only [putE, putC, hf]
    simp [Instr.mapUpdate, run_underlying ht, run_getObj_map h.get, K.check, K.find, hf, Result.andThen, run_setObj_map _ h.get, setM, ents_push (enc := enc) (es := es) (a, v, c)]
  | some x =>
    obtain ⟨j, v0⟩ := x
    obtain ⟨-, s, hs⟩ := findE_some hf
    have hs' : es[j]? = some (a, v0, s) := by simpa using hs
    simp only [putE, putC, hf]
    have hk2 := ents_modify (enc := enc) (es := es) (j := j) (fun e => { e with key := enc a, val := v }) (fun e => (e.1, v, e.2.2)) (fun e he => by
      have : e = (a, v0, s) := Option.some.inj (he.symm.trans hs')
      subst this; rfl)
    simp [Instr.mapUpdate, run_underlying ht, run_getObj_map h.get, K.check, K.find, hf, Result.andThen, run_setObj_map _ h.get, setM, K.stay, ents_key hs', hk2]

theorem MapR.put [DecidableEq α] (h : MapR enc H b es c) {v : Value} : MapR enc (Tr.setM H b (.map (ents enc (putE a v c es)).toArray (putC a c es))) b (putE a v c es) (putC a c es) := by
  refine ⟨get_setM h.get, ?_, ?_⟩
  · intro e he
    unfold putE at he
    unfold putC
    cases hf : findE a es 0 with
    | none =>
      rw [hf] at he
      rcases List.mem_append.1 he with h1 | h1
      · have := h.lt e h1; simp; omega
      · simp at h1; subst h1; simp
    | some x =>
      rw [hf] at he
      obtain ⟨i, hi⟩ := List.mem_iff_getElem?.1 he
      rw [List.getElem?_modify] at hi
      cases hg : es[i]? with
      | none => rw [hg] at hi; split at hi <;> simp at hi
      | some e0 =>
        rw [hg] at hi
        have := h.lt e0 (List.mem_of_getElem? hg)
        split at hi <;> (simp at hi; subst hi; simpa using this)
  · unfold putE
    cases hf : findE a es 0 with
    | none =>
      simp only [List.map_append, List.nodup_append]
      refine ⟨h.nd, by simp, ?_⟩
      intro x hx y hy
      obtain ⟨e, he, rfl⟩ := List.mem_map.1 hx
      simp at hy
      subst hy
      have := h.lt e he
      omega
    | some x =>
      have : ((es.modify x.1 fun e => (e.1, v, e.2.2)).map (·.2.2)) = es.map (·.2.2) := by
        apply List.ext_getElem?
        intro i
        simp only [List.getElem?_map, List.getElem?_modify]
        cases es[i]? with
        | none => simp
        | some e => by_cases hi : x.1 = i <;> simp [hi]
      obtain ⟨j, v0⟩ := x
      simpa only [this] using h.nd

theorem wpH_mapUpd [DecidableEq α] (K : KeyX P kt enc) (ht : P.underlying t = some (.map kt et)) (h : MapR enc H b es c) {v : Value} {k : Value → T}
    (hk : MapR enc (setM H b (.map (ents enc (putE a v c es)).toArray (putC a c es))) b (putE a v c es) (putC a c es) → wpH P Q (k undef) R (setM H b (.map (ents enc (putE a v c es)).toArray (putC a c es)))) :
    wpH P Q (.op [] (.mapUpd t (.map (some b)) (enc a) v) k) R H := by
  intro w hw
  subst hw
  have e : (N.mapUpd t (.map (some b)) (enc a) v).sem.run P w = .ok .skip { w with heap := setM w.heap b (.map (ents enc (putE a v c es)).toArray (putC a c es)) } := by
    simp [N.sem, run_mapUpd K ht h]
  rw [e]
  exact ⟨⟨rfl, rfl, rfl⟩, held_nil _ _, hk h.put⟩

/-- An entry asked for: what comes back. -/
theorem wpH_mapEntry_new [DecidableEq α] (K : KeyX P kt enc) (ht : P.underlying t = some (.map kt et)) {z : Value} (hz : zeroT P et = some z) {ws : List (N × Value)} (h : MapR enc H b es c) (hf : findE a es 0 = none) {k : Value → T}
    (hh : Held P ws (setM H b (.map (ents enc (es ++ [(a, z, c)])).toArray (c + 1))))
    (hk : MapR enc (setM H b (.map (ents enc (es ++ [(a, z, c)])).toArray (c + 1))) b (es ++ [(a, z, c)]) (c + 1) → wpH P Q (k (.tuple #[z, .int .i64 c])) R (setM H b (.map (ents enc (es ++ [(a, z, c)])).toArray (c + 1)))) :
    wpH P Q (.op ws (.mapEntry t (.map (some b)) (enc a)) k) R H := by
  intro w hw
  subst hw
  have hz' : ∀ w : World, (zeroValue et).run P w = .ok z w := by
    intro w
    unfold zeroT at hz
    obtain ⟨i, hi, hz⟩ := Option.bind_eq_some_iff.1 hz
    simp [zeroValue, typeInfo, hi, hz]
  have e : (N.mapEntry t (.map (some b)) (enc a)).sem.run P w = .ok (.value (.tuple #[z, .int .i64 c])) { w with heap := setM w.heap b (.map (ents enc (es ++ [(a, z, c)])).toArray (c + 1)) } := by
    simp [N.sem, Instr.mapEntry, run_underlying ht, run_getObj_map h.get, K.check, K.find, hf, Result.andThen, run_setObj_map _ h.get, setM, hz', ents_push (enc := enc) (es := es) (a, z, c), goInt]
  rw [e]
  have hp : MapR enc (setM w.heap b (.map (ents enc (es ++ [(a, z, c)])).toArray (c + 1))) b (es ++ [(a, z, c)]) (c + 1) := by
    have := h.put (a := a) (v := z)
    simpa only [putE, putC, hf, Option.isSome_none, Bool.false_eq_true, if_false] using this
  exact ⟨⟨rfl, rfl, rfl⟩, hh, hk hp⟩

theorem wpH_mapEntry_old [DecidableEq α] (K : KeyX P kt enc) (ht : P.underlying t = some (.map kt et)) {ws : List (N × Value)} (h : MapR enc H b es c) {j s : Nat} {v : Value} (hf : findE a es 0 = some (j, v)) (hs : es[j]? = some (a, v, s)) {k : Value → T}
    (hh : Held P ws H) (hk : wpH P Q (k (.tuple #[v, .int .i64 s])) R H) :
    wpH P Q (.op ws (.mapEntry t (.map (some b)) (enc a)) k) R H := by
  intro w hw
  subst hw
  have hk2 := ents_modify (enc := enc) (es := es) (j := j) (fun e => { e with key := enc a }) id (fun e he => by
      have : e = (a, v, s) := Option.some.inj (he.symm.trans hs)
      subst this; rfl)
  rw [modify_id es j id (fun _ _ => rfl)] at hk2
  have e : (N.mapEntry t (.map (some b)) (enc a)).sem.run P w = .ok (.value (.tuple #[v, .int .i64 s])) w := by
    have e2 := setM_self h.get
    simp only [setM] at e2
    simp [N.sem, Instr.mapEntry, run_underlying ht, run_getObj_map h.get, K.check, K.find, hf, Result.andThen, run_setObj_map _ h.get, setM, K.stay, ents_key hs, ents_bornZ hs, hk2, goInt, e2]
  rw [e]
  exact ⟨⟨rfl, rfl, rfl⟩, hh, hk⟩

theorem findIdx_stamp {j s : Nat} {v : Value} (hnd : (es.map (·.2.2)).Nodup) (hs : es[j]? = some (a, v, s)) : (ents enc es).toArray.findIdx? (fun e => (e.born : Int) == (s : Int)) = some j := by
  have e0 : (ents enc es)[j]? = some ⟨enc a, v, s⟩ := by simp [ents, hs]
  have hn : ((ents enc es).map (·.born)).Nodup := by simpa [ents, Function.comp_def] using hnd
  simp only [List.findIdx?_toArray]
  rw [List.findIdx?_eq_some_iff_getElem]
  obtain ⟨hl, hg⟩ := List.getElem?_eq_some_iff.1 e0
  refine ⟨hl, by rw [hg]; simp, ?_⟩
  intro i hi
  have hi' : i < (ents enc es).length := by omega
  intro hc
  have h1 : ((ents enc es)[i]).born = s := by
    have : (((ents enc es)[i]).born : Int) = (s : Int) := by simpa using hc
    omega
  have h2 : ((ents enc es)[j]).born = s := by rw [hg]
  have := (List.nodup_iff_pairwise_ne.1 hn)
  have h3 := List.pairwise_iff_getElem.1 this i j (by simpa using hi') (by simpa using hl) hi
  simp [h1, h2] at h3

theorem wpH_entryStore {t : TypeId} (h : MapR enc H b es c) {j s : Nat} {v0 v : Value} (hs : es[j]? = some (a, v0, s)) {k : Value → T}
    (hk : MapR enc (setM H b (.map (ents enc (es.modify j fun e => (e.1, v, e.2.2))).toArray c)) b (es.modify j fun e => (e.1, v, e.2.2)) c → wpH P Q (k undef) R (setM H b (.map (ents enc (es.modify j fun e => (e.1, v, e.2.2))).toArray c))) :
    wpH P Q (.op [] (.entryStore t (.map (some b)) (.int .i64 s) v) k) R H := by
  intro w hw
  subst hw
  have hk2 := ents_modify (enc := enc) (es := es) (j := j) (fun e => { e with val := v }) (fun e => (e.1, v, e.2.2)) (fun e he => rfl)
  have e : (N.entryStore t (.map (some b)) (.int .i64 s) v).sem.run P w = .ok .skip { w with heap := setM w.heap b (.map (ents enc (es.modify j fun e => (e.1, v, e.2.2))).toArray c) } := by
    have := findIdx_stamp (enc := enc) h.nd hs
    simp only [List.findIdx?_toArray] at this
    simp [N.sem, Instr.entryStore, run_getObj_map h.get, Result.andThen, asInt, asIntOf, this, run_setObj_map _ h.get, setM, hk2]
  rw [e]
  refine ⟨⟨rfl, rfl, rfl⟩, held_nil _ _, hk ⟨get_setM h.get, ?_, ?_⟩⟩
  · intro e he
    obtain ⟨i, hi⟩ := List.mem_iff_getElem?.1 he
    rw [List.getElem?_modify] at hi
    cases hg : es[i]? with
    | none => rw [hg] at hi; split at hi <;> simp at hi
    | some e0 =>
      rw [hg] at hi
      have := h.lt e0 (List.mem_of_getElem? hg)
      split at hi <;> (simp at hi; subst hi; simpa using this)
  · have : ((es.modify j fun e => (e.1, v, e.2.2)).map (·.2.2)) = es.map (·.2.2) := by
      apply List.ext_getElem?
      intro i
      simp only [List.getElem?_map, List.getElem?_modify]
      cases es[i]? with
      | none => simp
      | some e => by_cases hi : j = i <;> simp [hi]
    rw [this]
    exact h.nd

theorem wpH_mapLen {t ty : TypeId} {cs : Array Bool} (ht : P.underlying t = some (.map kt et)) (h : MapR enc H b es c) {k : Value → T} :
    wpH P Q (.look (.builtin .len #[t] ty cs #[.map (some b)]) k) R H = wpH P Q (k (.int .i64 es.length)) R H :=
  look_eq fun w hw => by
    subst hw
    simp [N.sem, builtin, Builtin.len_, run_underlying ht, run_getObj_map h.get, Result.andThen, goInt, ents]
end
end Go.Tr
