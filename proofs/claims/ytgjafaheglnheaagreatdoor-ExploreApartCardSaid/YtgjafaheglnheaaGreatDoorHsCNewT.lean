/- Package world: the end of New, once all parts are there. Conditions: a world lies in the heap; its queue and log are short. -/
import Derived.Test.YtgjafaheglnheaaGreatDoorHsCStep2
set_option maxRecDepth 20000
namespace Go.Tr
open Go.Proofs.Tryz (prog)

/-- What New leaves of a world whose parts are there. -/
def Wm.born (x : Wm) : Wm := ((((x.upd 0 fun m => { m with place := 1, p := 0 }).move 0 0 1).logged ⟨0, 0, -1, -1, 0⟩).withQueue (x.queue ++ [0]))

def newTail (s : Value) : T := .pure (.nilChk s) fun v116 => .pure (.fieldA 193 v116 10) fun v117 => .look (.load 189 v117)
  fun v118 => .pure (.nilChk s) fun v120 => .pure (.fieldA 193 v120 10) fun v121 => .look (.load 189 v121) fun v122 => .pure (.indexA 189 v118 (.int .i64 0)) fun v123 =>
  .pure (.fieldA 98 v123 0) fun v124 => .op [] (.store 92 v124 (.int .i64 1)) fun _ => .pure (.indexA 189 v122 (.int .i64 0)) fun v125 => .pure (.fieldA 98 v125 1) fun v126 => .op
  [] (.store 3 v126 (.int .i64 0)) fun _ => .pure (.nilChk s) fun v128 => .pure (.fieldA 193 v128 4) fun v129 => .look (.load 186 v129) fun v130 => .pure (.nilChk s) fun v132 => .pure (.fieldA 193 v132 1) fun v133 => .look (.load 63 v133) fun v134 => .op [] (.callv (.func (.func 159) #[] #[]) #[v130, v134, (.int .i64 0), (.int .u64 0),
  (.int .u64 1)]) fun _ => .pure (.nilChk s) fun v137 => .pure (.fieldA 193 v137 12) fun v138 => .pure (.build 43 #[(0, (.int .i64 0)), (2, (.int .i64 (-1))), (3, (.int
  .i64 (-1)))]) fun v139 => .op [] (.callv (.func (.func 160) #[] #[]) #[v138, v139]) fun _ => .pure (.nilChk s) fun v142 => .pure (.fieldA 193 v142 7) fun v143 => .look
  (.load 188 v143) fun v144 => .op [] (.buildSlice 33 1 #[(0, (.int .i64 0))]) fun v145 => .op [] (.callv (.func (.func 161) #[] #[]) #[v144, v145]) fun _ => .join (.leaf none [s, (.int .i64 0)]) fun e s6 => onE e (.ret [(sl s6 0), (sl s6 1)]) fun _ => .bad

section
variable {gb : Nat} {K : Fix} {O : Side} {H : Heap} {x : Wm}
theorem ix_all0 {n c b : Nat} (hi : 0 < n) : dry prog (N.indexA 189 (.slice (some ⟨b, 0, none⟩) n c) (.int .i64 0)).sem = some (.value (.pointer (some ⟨b, 0, none⟩))) := by
  have := ix_all (b := b) (c := c) hi; simpa using this

theorem W.st0z {Q : List Value → Heap → Prop} {R : Option Nat → List Value → Heap → Prop} (h : W gb K O H x) (hi : 0 < x.M) {t : TypeId} (ht : oneT prog t = true) {v : Int} {kk : Value → T} (hk : ∀ H', W gb K O H' (x.upd 0 fun m => { m with place := v }) → wpH prog Q (kk undef) R H') :
    wpH prog Q (.op [] (.store t (.pointer (some ⟨K.ab, 0, Option.none⟩)) (i64 v)) kk) R H := h.st0 (i := 0) hi ht hk
theorem W.st1z {Q : List Value → Heap → Prop} {R : Option Nat → List Value → Heap → Prop} (h : W gb K O H x) (hi : 0 < x.M) {t : TypeId} (ht : oneT prog t = true) {v : Int} {kk : Value → T} (hk : ∀ H', W gb K O H' (x.upd 0 fun m => { m with p := v }) → wpH prog Q (kk undef) R H') :
    wpH prog Q (.op [] (.store t (.pointer (some ⟨K.ab, 1, Option.none⟩)) (i64 v)) kk) R H := h.st1 (i := 0) hi ht hk
theorem new_tail {Q : Value → Heap → Prop} (h : W gb K O H x) (hl : x.log.length ≤ 2 ^ 30) (hq : x.queue.length ≤ 2 ^ 30) (hQ : ∀ H', W gb K O H' x.born → Q (.tuple #[ptr K.b, i64 0]) H') :
    wpH prog (fun vs H' => Q (retVal vs) H') (newTail (ptr K.b)) (fun _ _ _ => False) H := by
  have hi : 0 < x.M := by have := h.fits; omega
  simp [newTail, h.f, hi, ix_all0]
  refine W.st0z h hi one_92 fun H h => ?_
  simp [hi, ix_all0]
  refine W.st1z h hi one_3 fun H h => ?_
  simp only [Wm.upd_upd] at h
  simp [h.f]
  have hm := w_move h (g := 0) (a := 0) (c := 1) (by decide)
  simp at hm
  refine hm.mono ?_
  rintro _ H ⟨-, h⟩
  try simp
  refine (w_log h (e := ⟨0, 0, -1, -1, 0⟩) (by show x.log.length ≤ 2 ^ 34; omega)).mono fun _ H h => ?_
  simp [h.f]
  refine wpH_buildSlice (bs_33_1 0) ?_
  obtain ⟨h1, hn, -⟩ := h.push (.cells #[.int .i64 0] 3 (0, 0))
  have eq : ∀ (y : Wm) (e : Ev), (y.logged e).queue = y.queue := fun y e => by unfold Wm.logged; split <;> rfl
  try simp
  refine (w_queue_put h1 (l := [0]) (Owns.reads (e := 3) (.inr ⟨H.size, 1, 1, [i64 0], rfl, by simp, by simp, by omega, get_push_new _ _, by simp⟩)) (by rw [eq]; show x.queue.length ≤ 2 ^ 34; omega) (by simp)).mono fun _ H2 h2 => ?_
  have h := h2.forget hn
  rw [eq] at h
  try simp
  exact hQ _ h
end

end Go.Tr
