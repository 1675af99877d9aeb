/- Closed facts on the program as a whole, each by the kernel. Written by a program of this session; no condition. -/
import Derived.Test.YtgjafaheglnheaaGreatDoorHsCShut
namespace Go.Proofs.YtgjafaheglnheaaGreatDoor
open Go
set_option maxRecDepth 100000

/-- The head's words, as signs. -/
def sh_signs : List Char := ([104, 97, 114, 110, 101, 115, 115, 32, 48, 56, 99, 101, 100, 49, 52, 101, 99, 53, 101, 98, 101, 49, 99, 57, 52, 49, 53, 52, 100, 48, 54, 50, 102, 50, 102, 99, 51, 50, 57, 98, 56, 57, 54, 48, 99, 48, 101, 56, 50, 97, 50, 97, 101, 99, 54, 100, 100, 49, 48, 97, 49, 52, 50, 98, 100, 49, 54, 55, 48, 102, 53, 49, 32, 99, 117, 116, 32, 97, 116, 32, 104, 111, 115, 116, 108, 101, 114, 47, 104, 111, 115, 116, 108, 101, 114, 108, 97, 119, 50, 52, 46, 66, 111, 117, 110, 100, 78, 117, 109, 98, 101, 114, 115, 32, 104, 111, 115, 116, 108, 101, 114, 47, 104, 111, 115, 116, 108, 101, 114, 108, 97, 119, 50, 56, 46, 69, 120, 112, 108, 111, 114, 101, 65, 112, 97, 114, 116, 32, 104, 111, 115, 116, 108, 101, 114, 47, 104, 111, 115, 116, 108, 101, 114, 108, 97, 119, 50, 56, 46, 69, 120, 112, 108, 111, 114, 101, 79, 114, 100, 101, 114, 115, 32, 104, 111, 115, 116, 108, 101, 114, 47, 104, 111, 115, 116, 108, 101, 114, 108, 97, 119, 50, 54, 46, 66, 111, 120, 101, 100, 77, 117, 115, 116, 32, 104, 111, 115, 116, 108, 101, 114, 47, 104, 111, 115, 116, 108, 101, 114, 108, 97, 119, 50, 48, 46, 87, 111, 114, 108, 100, 65, 103, 97, 105, 110, 32, 104, 111, 115, 116, 108, 101, 114, 47, 104, 111, 115, 116, 108, 101, 114, 108, 97, 119, 50, 55, 46, 84, 97, 108, 108, 121, 74, 111, 105, 110, 115, 32, 104, 111, 115, 116, 108, 101, 114, 47, 104, 111, 115, 116, 108, 101, 114, 116, 111, 112, 46, 84, 111, 112, 82, 117, 110, 32, 104, 111, 115, 116, 108, 101, 114, 47, 104, 111, 115, 116, 108, 101, 114, 108, 97, 119, 50, 50, 46, 82, 111, 117, 110, 100, 72, 97, 98, 105, 116, 115, 32, 104, 111, 115, 116, 108, 101, 114, 47, 104, 111, 115, 116, 108, 101, 114, 108, 97, 119, 50, 50, 46, 82, 111, 117, 110, 100, 85, 110, 116, 105, 108, 32, 104, 111, 115, 116, 108, 101, 114, 47, 104, 111, 115, 116, 108, 101, 114, 108, 97, 119, 50, 50, 46, 82, 111, 117, 110, 100, 65, 108, 108, 32, 104, 111, 115, 116, 108, 101, 114, 47, 104, 111, 115, 116, 108, 101, 114, 108, 97, 119, 50, 53, 46, 84, 114, 97, 99, 101, 78, 101, 118, 101, 114, 32, 104, 111, 115, 116, 108, 101, 114, 47, 104, 111, 115, 116, 108, 101, 114, 108, 97, 119, 50, 53, 46, 84, 114, 97, 99, 101, 84, 105, 109, 101, 115, 32, 104, 111, 115, 116, 108, 101, 114, 47, 104, 111, 115, 116, 108, 101, 114, 108, 97, 119, 50, 53, 46, 84, 114, 97, 99, 101, 79, 114, 100, 101, 114, 32, 104, 111, 115, 116, 108, 101, 114, 47, 104, 111, 115, 116, 108, 101, 114, 108, 97, 119, 50, 53, 46, 84, 114, 97, 99, 101, 70, 114, 111, 109, 32, 104, 111, 115, 116, 108, 101, 114, 47, 104, 111, 115, 116, 108, 101, 114, 108, 97, 119, 50, 52, 46, 66, 111, 117, 110, 100, 68, 105, 115, 112, 97, 116, 99, 104, 101, 115, 32, 104, 111, 115, 116, 108, 101, 114, 47, 104, 111, 115, 116, 108, 101, 114, 108, 97, 119, 50, 48, 46, 87, 111, 114, 108, 100, 67, 111, 110, 102, 105, 103, 115, 32, 104, 111, 115, 116, 108, 101, 114, 47, 104, 111, 115, 116, 108, 101, 114, 108, 97, 119, 50, 48, 46, 87, 111, 114, 108, 100, 77, 111, 100, 101, 108, 32, 104, 111, 115, 116, 108, 101, 114, 47, 104, 111, 115, 116, 108, 101, 114, 116, 111, 112, 46, 84, 111, 112, 79, 114, 100, 101, 114, 115, 32, 104, 111, 115, 116, 108, 101, 114, 47, 104, 111, 115, 116, 108, 101, 114, 108, 97, 119, 50, 52, 46, 66, 111, 117, 110, 100, 83, 101, 114, 118, 101, 115, 32, 104, 111, 115, 116, 108, 101, 114, 47, 104, 111, 115, 116, 108, 101, 114, 108, 97, 119, 50, 54, 46, 66, 111, 120, 101, 100, 84, 101, 120, 116, 115] : List Nat).map Char.ofNat
theorem sh_order : Tryz.prog.initOrder = String.ofList sh_signs := by kernel_rfl
theorem sh_chars : Tryz.prog.initOrder.toList = sh_signs := by rw [sh_order, String.toList_ofList]
def sh_sum : List Char := ([48, 56, 99, 101, 100, 49, 52, 101, 99, 53, 101, 98, 101, 49, 99, 57, 52, 49, 53, 52, 100, 48, 54, 50, 102, 50, 102, 99, 51, 50, 57, 98, 56, 57, 54, 48, 99, 48, 101, 56, 50, 97, 50, 97, 101, 99, 54, 100, 100, 49, 48, 97, 49, 52, 50, 98, 100, 49, 54, 55, 48, 102, 53, 49] : List Nat).map Char.ofNat
theorem sh_sumText : "08ced14ec5ebe1c94154d062f2fc329b8960c0e82a2aec6dd10a142bd1670f51".toList = sh_sum := by
  rw [show "08ced14ec5ebe1c94154d062f2fc329b8960c0e82a2aec6dd10a142bd1670f51" = String.ofList sh_sum by kernel_rfl, String.toList_ofList]
theorem main_of {P : Program} {h s : List Char} {r : List (List Char)} (e : wordsSigns P.initOrder.toList = h :: s :: r) (h1 : isSumSigns s = true) (h2 : (h == "harness".toList) = true) : P.mainIs = some (true, s) := by
  unfold Program.mainIs
  rw [e]
  simp only [h1, h2, Bool.not_true, Bool.false_eq_true, if_false, if_true]
def sh_harness : List Char := ([104, 97, 114, 110, 101, 115, 115] : List Nat).map Char.ofNat
theorem sh_split : wordsSigns sh_signs = sh_harness :: sh_sum :: (wordsSigns sh_signs).drop 2 := by kernel_rfl
theorem sh_main : Tryz.prog.mainIs = some (true, "08ced14ec5ebe1c94154d062f2fc329b8960c0e82a2aec6dd10a142bd1670f51".toList) := by
  rw [sh_sumText]
  exact main_of (r := (wordsSigns sh_signs).drop 2) ((congrArg wordsSigns sh_chars).trans sh_split) (by kernel_rfl) (by kernel_rfl)
def sh_cut : List Char := ([99, 117, 116] : List Nat).map Char.ofNat
def sh_rest : List (List Char) := (wordsSigns sh_signs).drop 3
theorem sh_behind : behindMainWord (wordsSigns sh_signs) = sh_cut :: sh_rest := by kernel_rfl
def sh_lw : List (List Nat) := [[102, 105, 110, 97, 108, 115], [114, 101, 102, 108, 101, 99, 116, 114, 111, 119, 115], [108, 101, 97, 110, 114, 111, 119, 115], [111, 110, 101, 98, 117, 105, 108, 100], [112, 117, 98, 108, 105, 99, 115, 117, 109, 115], [101, 113, 103, 117, 97, 114, 100], [111, 119, 110, 117, 110, 115, 97, 102, 101], [108, 105, 98, 98, 101, 115, 105, 100, 101], [111, 119, 110, 98, 101, 115, 105, 100, 101], [114, 101, 102, 108, 98, 101, 115, 105, 100, 101], [97, 108, 105, 97, 115, 101, 115], [97, 102, 116, 101, 114, 105, 110, 105, 116], [99, 114, 99, 112, 108, 97, 105, 110], [114, 111, 97, 100, 117, 110, 115, 97, 102, 101], [102, 109, 116, 104, 97, 110, 100, 111, 110]]
theorem sh_words : liftWords = sh_lw.map fun n => String.ofList (n.map Char.ofNat) := by kernel_rfl
theorem strip_none {w : List Char} {ws : List (List Char)} : ∀ {os : List String}, (∀ o ∈ os, (w == o.toList) = false) → stripLifts os (w :: ws) = ([], w :: ws)
  | [], _ => rfl
  | o :: os, h => by
    have h1 := h o (by simp)
    have ih := strip_none (w := w) (ws := ws) (os := os) fun o ho => h o (by simp [ho])
    simp only [stripLifts, h1, ih]
    rfl
theorem sh_strip : stripLifts liftWords (sh_cut :: sh_rest) = ([], sh_cut :: sh_rest) := by
  rw [sh_words]
  refine strip_none fun o ho => ?_
  obtain ⟨n, hn, rfl⟩ := List.mem_map.1 ho
  have ha : (sh_lw.all fun n => !(sh_cut == n.map Char.ofNat)) = true := by kernel_rfl
  have := List.all_eq_true.1 ha n hn
  rw [String.toList_ofList]
  simpa using this
theorem sh_head : Tryz.prog.headLifts = [] := by
  unfold Program.headLifts
  rw [sh_chars, sh_behind, sh_strip]
  kernel_rfl
theorem sh_lifts : Tryz.prog.liftsFinal = false := by
  unfold Program.liftsFinal
  rw [sh_chars, sh_behind, sh_head]
  kernel_rfl
theorem make_of {P : Program} {c : List Char} {rest : List (List Char)} (e : behindMainWord (wordsSigns P.initOrder.toList) = c :: rest) (h1 : (c == "gc".toList) = false) (h2 : (c == "spec".toList) = false) (h3 : (c == "cut".toList) = true) : P.make = some .cut := by
  unfold Program.make
  rw [e]
  simp only [h1, h2, h3, Bool.or_self, Bool.false_eq_true, if_false, Bool.true_or, if_true]
theorem sh_back : behindMainWord (wordsSigns Tryz.prog.initOrder.toList) = sh_cut :: sh_rest := (congrArg (fun l => behindMainWord (wordsSigns l)) sh_chars).trans sh_behind
theorem sh_make : Tryz.prog.make = some .cut := make_of sh_back (by kernel_rfl) (by kernel_rfl) (by kernel_rfl)
theorem sh_lays : Tryz.prog.laysLater = false := by kernel_rfl
theorem sh_bears : Tryz.prog.bearsReflect = false := by kernel_rfl
theorem sh_elder : (Tryz.prog.doorRows.any fun n => ["(look 8)", "(look 8, test files too)", "(list 7)", "(look 7)"].any (endsIn · n)) = false := by kernel_rfl
theorem fits_of {P : Program} (h : (P.doorRows.any fun n => ["(look 8)", "(look 8, test files too)", "(list 7)", "(look 7)"].any (endsIn · n)) = false) : P.doorFits [] = true := by
  unfold Program.doorFits
  simp only [h, Bool.false_and, List.contains_nil, Bool.or_self, Bool.not_false, Bool.or_true, Bool.and_self, Bool.true_and, Bool.or_false]
theorem enter_of {P : Program} {c : List Char} {rest : List (List Char)} (e : behindMainWord (wordsSigns P.initOrder.toList) = c :: rest) (h1 : (c == "gc".toList) = false) (h2 : (c == "spec".toList) = false) (h3 : (c == "carried".toList) = false)
    (h4 : ((c :: rest).head? == some "cut".toList) = true) (hs : stripLifts liftWords (c :: rest) = ([], c :: rest)) (hl : P.laysLater = false) (hb : P.bearsReflect = false) (hf : P.doorFits [] = true) : P.mayEnter = true := by
  unfold Program.mayEnter
  rw [e]
  simp only [h1, h2, h3, hs, h4, hl, hb, hf, Bool.or_self, Bool.false_and, Bool.false_or, Bool.not_false, Bool.or_true, Bool.true_and, List.contains_nil, Bool.and_self]
theorem sh_enter : Tryz.prog.mayEnter = true := enter_of sh_back (by kernel_rfl) (by kernel_rfl) (by kernel_rfl) (by kernel_rfl) sh_strip sh_lays sh_bears (fits_of sh_elder)

theorem sh_laid : laidOutB Tryz.prog = true := by kernel_rfl
theorem sh_rowed : mapsRowed Tryz.prog = true := by kernel_rfl
theorem sh_stops : (Tryz.prog.stops == []) = true := by kernel_rfl
theorem sh_knobs : (Tryz.prog.stopKnobs == []) = true := by kernel_rfl
theorem sh_heard : Tryz.prog.stopsHeard = true := by kernel_rfl
theorem sh_plain : Tryz.prog.plainKeys = false := by kernel_rfl
theorem sh_looks : true = Tryz.prog.looks [] := by kernel_rfl
end Go.Proofs.YtgjafaheglnheaaGreatDoor
