/-
  Layer 18's example.
-/
import Derived.Test.YtoplkglnjgllnaaTellM
namespace Go.Proofs.Ytoplkglnjgllnaa
open Go.RowKit
set_option linter.unusedVariables false
set_option linter.unusedSimpArgs false

theorem okM_107 : ∀ tag code : Int, layOk ⟨107, tag, code, 0, 0, 0, [], qidZ, [], [], qidZ, 0, 0, []⟩ = (inB tag 65535 && inB code 65535) := by
  intro tag code
  have h1 : partsM 107 = [3] := rfl
  have h2 : (107 : Int) ∈ kindsW := by decide
  simp [layOk, layS, lay0, stepT, partT, partOk, h1, h2, sameT, bareT, sameQs]
theorem layB_107 : ∀ tag code : Int, layB ⟨107, tag, code, 0, 0, 0, [], qidZ, [], [], qidZ, 0, 0, []⟩ = le 2 (n16 code) := by
  intro tag code
  have h1 : partsM 107 = [3] := rfl
  simp [layB, layS, lay0, stepT, partB, h1]

set_option maxRecDepth 20000 in
theorem lives18_any (w : World) : Calls Try.prog 14 #[] w fun e w' => e = .returned (.bool true) ∧ Below w.heap.size w w' := by
  go_enter Try.func14, Try.ntmps14
  go_wp2_with fail
  refine (tError_any 1 2 _).mono ?_
  rintro e w1 ⟨rfl, hb1⟩
  go_wp2_with fail
  refine (tWrite_any 107 1 2 0 0 0 [] false 0 0 [] [] false 0 0 0 0 [] none 0 0 none 0 0 w1 RdR.nil RdB.nil (by omega) (by omega) (by simp) (by simp) (by omega)).mono ?_
  rintro e w2 ⟨A, n, c, l, er, hl, her, rfl, hown, hb2⟩
  have hok : layOk ⟨107, 1, 2, 0, 0, 0, [], ⟨false, 0, 0⟩, [], [], ⟨false, 0, 0⟩, 0, 0, []⟩ = true := by
    have := okM_107 1 2
    exact this
  have hbb : layB ⟨107, 1, 2, 0, 0, 0, [], ⟨false, 0, 0⟩, [], [], ⟨false, 0, 0⟩, 0, 0, []⟩ = [2, 0] := by
    have := layB_107 1 2
    exact this
  have he : er = 0 := by rw [her.out, if_pos hok]
  have hls : l = [9, 0, 0, 0, 107, 1, 0, 2, 0] := by rw [hl.out, if_pos hok, hbb]; rfl
  subst he
  subst hls
  have hcv := str_of (c := c) hown.rd (Below.refl _ _)
  have HB := Lib.hid (Up.trans hb1 hb2)
  clear hl her hok hbb hown hb1 hb2
  go_wp2
  go_ret
  exact ⟨rfl, HB.out⟩
end Go.Proofs.Ytoplkglnjgllnaa
