/- Package world: rows of machines. No condition. -/
import Derived.Test.YtgjafaheglnheaaGreatDoorHsCNew3
set_option maxRecDepth 20000
namespace Go.Tr

theorem range_flat_get (l : List Value) (hl : l.length = 18) : ∀ (n i k : Nat), i < n → k < 18 → ((List.range n).flatMap fun _ => l)[i * 18 + k]? = l[k]? := by
  intro n
  induction n with
  | zero => intro i k h; omega
  | succ n ih =>
    intro i k hi hk
    rw [List.range_succ, List.flatMap_append]
    simp only [List.flatMap_cons, List.flatMap_nil, List.append_nil]
    have h1 := range_flat n l
    rw [hl] at h1
    by_cases h : i < n
    · rw [List.getElem?_append_left (by omega)]
      exact ih i k h hk
    · have : i = n := by omega
      subst this
      rw [List.getElem?_append_right (by omega), h1]
      congr 1
      omega

theorem machRow_owns {H : Heap} {e : TypeId} {av : Value} {n : Nat} {l : List Value} (hl : l.length = 18) (ho : Owns H 18 e av ((List.range n).flatMap fun _ => l)) (hn : 0 < n) :
    ∃ b c, av = .slice (some ⟨b, 0, none⟩) n c ∧ MachRow H b n (fun _ => l) := by
  have h0 := range_flat n l
  rw [hl] at h0
  rcases ho with ⟨_, hh⟩ | ⟨b, n', c, l', rfl, h1, h2, h3, h4, h5⟩
  · rw [hh] at h0; simp at h0; omega
  · have hn' : n' = n := by omega
    subst hn'
    refine ⟨b, c, rfl, ⟨⟨_, _, h4, by simp; omega, fun i hi k hk => ?_⟩⟩⟩
    have h6 := range_flat_get l hl n' i k hi hk
    rw [← h5, List.getElem?_take, if_pos (by omega)] at h6
    simp [h6]

/-- A world whose parts are all there. -/
theorem Mid.wat {H0 H : Heap} {L : Lay} {K : Spots} {x : Wm} {D : Role → Prop} {gb : Nat} (h : Mid H0 H L K x D (wcs x K (ptr L.mb) (.slice (some ⟨L.rb, 0, none⟩) x.P L.rc) (.slice (some ⟨L.ab, 0, none⟩) x.M L.ac) (.slice none 0 0)))
    (hg : Glob gb H0) (hx : x.log = []) (hD : ∀ r, r ≠ .none → r ≠ .world → r ≠ .log → (∀ p, r = .ring p → p < x.P) → D r) : WAt gb H { L with lv := .slice none 0 0 } x := by
  have hK := h.spots
  subst hK
  refine ⟨fun r => ?_, fun k hk => h.parts.free k (Nat.lt_of_lt_of_le hk hg.le), hg.of_mod h.parts.old (by simp)⟩
  cases r with
  | none => trivial
  | world => exact ⟨h.blk, h.col⟩
  | log => exact ⟨.inl ⟨rfl, by rw [hx]; rfl⟩, by intro c hc; cases hc⟩
  | ring p =>
    intro hp
    exact h.parts.comp (.ring p) (hD _ (by simp) (by simp) (by simp) (by intro q hq; cases hq; exact hp)) hp
  | rest i => exact h.parts.comp (.rest i) (hD _ (by simp) (by simp) (by simp) (by simp))
  | mem => exact h.parts.comp .mem (hD _ (by simp) (by simp) (by simp) (by simp))
  | rings => exact h.parts.comp .rings (hD _ (by simp) (by simp) (by simp) (by simp))
  | turns => exact h.parts.comp .turns (hD _ (by simp) (by simp) (by simp) (by simp))
  | queue => exact h.parts.comp .queue (hD _ (by simp) (by simp) (by simp) (by simp))
  | source => exact h.parts.comp .source (hD _ (by simp) (by simp) (by simp) (by simp))
  | idle => exact h.parts.comp .idle (hD _ (by simp) (by simp) (by simp) (by simp))
  | all => exact h.parts.comp .all (hD _ (by simp) (by simp) (by simp) (by simp))
  | flag => exact h.parts.comp .flag (hD _ (by simp) (by simp) (by simp) (by simp))

end Go.Tr
