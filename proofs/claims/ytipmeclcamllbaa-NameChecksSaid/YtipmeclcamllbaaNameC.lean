/-
  Layer 9: the example; the law NameApart, walked.
-/
import Derived.Test.YtipmeclcamllbaaNameB
import Derived.Test.YtipmeclcamllbaaNameQ
namespace Go.Proofs.Ytipmeclcamllbaa
open Go.RowKit
set_option linter.unusedVariables false

theorem Up.trans {a b c : World} (h : Below a.heap.size a b) (k : Below b.heap.size b c) : Below a.heap.size a c := h.trans (k.mono h.size)

theorem lives_any (w : World) : Calls Try.prog 10 #[] w fun e w' => e = .returned (.bool true) ∧ Below w.heap.size w w' := by
  have h1 : prt [97, 32, 98] = [97, 37, 50, 48, 98] := by decide
  have h2 : isName [97, 32, 98] = true := by decide
  have h3 : isName [46, 46] = false := by decide
  have H1 := Lib.hid h1
  have H2 := Lib.hid h2
  have H3 := Lib.hid h3
  clear h1 h2 h3
  go_enter Try.func10, Try.ntmps10
  go_wp2_with fail
  refine (print_any [97, 32, 98] _ (by simp)).mono ?_
  rintro e w1 ⟨l1, hl1, rfl, hb1⟩
  rw [H1.out] at hl1
  obtain rfl := hl1.out
  go_wp2_with fail
  refine (name_any [97, 32, 98] _ (by simp)).mono ?_
  rintro e w' ⟨rfl, rfl⟩
  rw [H2.out]
  go_wp2_with fail
  refine (name_any [46, 46] _ (by simp)).mono ?_
  rintro e w' ⟨rfl, rfl⟩
  rw [H3.out]
  go_wp2
  go_ret
  exact ⟨rfl, hb1⟩

set_option maxHeartbeats 1000000 in
theorem nameApart_walk (a b : List UInt8) (w : World) (ha : a.length ≤ 9223372036854775807) (hb : b.length ≤ 9223372036854775807) :
    Calls Try.prog 3 #[.string (st a), .string (st b)] w fun e w' => e = .returned (.bool true) ∧ Below w.heap.size w w' := by
  go_enter Try.func3, Try.ntmps3
  go_wp2_with fail
  refine (short_any a 12 _ (by omega) ha).mono ?_
  rintro e w' ⟨x, hx, rfl, rfl⟩
  go_wp2_with fail
  refine (short_any b 12 _ (by omega) hb).mono ?_
  rintro e w' ⟨y, hy, rfl, rfl⟩
  have hxl : x.length ≤ 65536 := by rw [hx.out, List.length_take]; omega
  have hyl : y.length ≤ 65536 := by rw [hy.out, List.length_take]; omega
  go_wp2_with fail
  refine (print_any x _ hxl).mono ?_
  rintro e w1 ⟨px, hpx, rfl, hb1⟩
  go_wp2_with fail
  refine (print_any y _ hyl).mono ?_
  rintro e w2 ⟨py, hpy, rfl, hb2⟩
  have heq : (px == py) = (x == y) := by
    rw [hpx.out, hpy.out, Bool.eq_iff_iff]
    simp only [beq_iff_eq]
    exact ⟨fun h => prt_inj h, fun h => by rw [h]⟩
  have HEQ := Lib.hid heq
  clear heq
  cases hxy : (x == y) with
  | true =>
    have h2 : (px == py) = true := by rw [HEQ.out, hxy]
    clear HEQ
    go_wp2_with fail
    refine (print_any x _ hxl).mono ?_
    rintro e w3 ⟨pz, hpz, rfl, hb3⟩
    have hpos : 0 < pz.length := by rw [hpz.out]; exact prt_pos x
    have hd : decide ((0 : Int) < pz.length) = true := by simp; omega
    go_wp2_with fail
    refine (lives_any _).mono ?_
    rintro e w4 ⟨rfl, hb4⟩
    go_wp2
    go_ret
    exact ⟨rfl, Up.trans hb1 (Up.trans hb2 (Up.trans hb3 hb4))⟩
  | false =>
    have h2 : (px == py) = false := by rw [HEQ.out, hxy]
    clear HEQ
    go_wp2_with fail
    refine (print_any x _ hxl).mono ?_
    rintro e w3 ⟨pz, hpz, rfl, hb3⟩
    have hpos : 0 < pz.length := by rw [hpz.out]; exact prt_pos x
    have hd : decide ((0 : Int) < pz.length) = true := by simp; omega
    go_wp2_with fail
    refine (lives_any _).mono ?_
    rintro e w4 ⟨rfl, hb4⟩
    go_wp2
    go_ret
    exact ⟨rfl, Up.trans hb1 (Up.trans hb2 (Up.trans hb3 hb4))⟩
end Go.Proofs.Ytipmeclcamllbaa
