/-
  Layer 12: the law BlobSizes, walked.
-/
import Derived.Test.YtopdogadednclaaLawA
namespace Go.Proofs.Ytopdogadednclaa
open Go.RowKit
set_option linter.unusedVariables false

set_option maxHeartbeats 1000000 in
theorem blobSizes_walk (A0 : Option Addr) (n0 c0 : Nat) (l0 : List UInt8) (off : Int) (w : World)
    (h0 : RdB w w.heap.size A0 n0 l0) (hc0 : n0 ≤ c0) (hm0 : c0 ≤ maxLen) (o0 : -9223372036854775808 ≤ off) (o1 : off ≤ 9223372036854775807) :
    Calls Try.prog 5 #[.slice A0 n0 c0, .int .i64 off] w fun e w' => e = .returned (.bool true) ∧ Below w.heap.size w w' := by
  have H0 := Lib.hid h0
  clear h0
  go_enter Try.func5, Try.ntmps5
  go_wp2_with fail
  refine (few_any A0 n0 c0 l0 40 _ H0.out hc0 hm0 (by omega)).mono ?_
  rintro e w2 ⟨A, n, c, l, hl, rfl, hown, hb1⟩
  go_wp2_with fail
  refine (from_any off _ o0 o1).mono ?_
  rintro e w' ⟨f1, hf1, hf1b, rfl, rfl⟩
  go_wp2_with fail
  refine (around_any off 61 _ o0 o1 (by omega) (by omega)).mono ?_
  rintro e w' ⟨f2, hf2, hf2b, rfl, rfl⟩
  have hn40 : n ≤ 40 := by rw [← hown.len, hl.out, List.length_take]; omega
  go_wp2
  have hoffs := cell2 w2 f1 f2 hf1b (by omega) 3
  have hb3 : Below w2.heap.size w2 (w2.alloc (.cells #[.int .i64 f1, .int .i64 f2] 3)) := (Below.refl _ _).alloc (Nat.le_refl _) _
  have hs3 : (w2.alloc (.cells #[.int .i64 f1, .int .i64 f2] 3)).heap.size = w2.heap.size + 1 := by simp
  generalize w2.alloc (.cells #[.int .i64 f1, .int .i64 f2] 3) = w3 at hoffs hb3 hs3 ⊢
  have hown3 := hown.up hb3
  have hrd := hown3.rd
  have HO := Lib.hid hoffs
  have HS := Lib.hid hs3
  clear hoffs hown hs3
  go_loopw [7] (fun i wr => RoundRel 2 w3 i wr) (fun i _ => 2 - (intOf i).toNat)
  case atStart => exact ⟨0, by omega, rfl, Below.refl _ _⟩
  case round =>
    obtain ⟨j, hj, rfl, hbw⟩ := hrel
    by_cases hlt : j < 2
    · obtain ⟨o, hob, hcell⟩ := HO.out j hlt
      have hcr : wr.cell? ⟨w2.heap.size, j, none⟩ = some (.int .i64 o) := by
        rw [hbw.cell (by show w2.heap.size < _; rw [HS.out]; omega)]; exact hcell
      have hj3 : (j : Int) < 2 := by omega
      go_wp2_with fail
      refine (resize_any A n c l o _ (hrd.up hbw) (by omega) hob).mono ?_
      rintro e w4 ⟨Ax, nx, cx, lx, Ex, hlx, hEx, rfl, hownx, hbx⟩
      have cv : ∀ W : World, Below w4.heap.size w4 W → (convert 22 9 (.slice A n c)).run Try.prog W = .ok (.string (st l)) W ∧ W.cell? ⟨w2.heap.size, j, none⟩ = some (.int .i64 o) := by
        intro W hW
        have hlt4 : w2.heap.size < w4.heap.size := by have := hbw.size; have := hbx.size; have := HS.out; omega
        refine ⟨str_of (hrd.up (Up.trans hbw hbx)) hW, ?_⟩
        rw [hW.cell hlt4, hbx.cell (by show w2.heap.size < _; have := hbw.size; have := HS.out; omega)]
        exact hcr
      have CV := Lib.hid cv
      clear cv hcr
      go_wp2
      go_region_held3 (fun W => (convert 22 9 (.slice A n c)).run Try.prog W = .ok (.string (st l)) W ∧ W.cell? ⟨w2.heap.size, j, none⟩ = some (.int .i64 o))
        (first | exact CV.out _ (Below.refl _ _) | exact CV.out _ ((Below.refl _ _).drew) | exact CV.out _ (below_of_drew hb5))
        (first | (go_at_call 17; refine (refResize_any l o _ ?_ hob).mono ?_; (rw [hown3.len]; omega); rintro e w5 ⟨ly, Ey, hly, hEy, rfl, hb5⟩))
      obtain rfl : lx = ly := hlx.out.trans hly.out.symm
      obtain rfl : Ex = Ey := hEx.out.trans hEy.out.symm
      have hb5' := below_of_drew hb5
      have hcx := str_of (c := cx) hownx.rd hb5'
      have hbn := Up.trans (Up.trans hbw hbx) hb5'
      clear hlx hly hEx hEy CV hb5
      go_wp2
      go_roundw
      case rel => exact ⟨j + 1, by omega, by go_num, hbn⟩
      case measure => simp [intOf]; omega
    · obtain rfl : j = 2 := by omega
      clear HO HS
      have HD := Lib.hid hl.out
      have hb0 : Below w.heap.size w wr := Up.trans hb1 (Up.trans hb3 hbw)
      have CV : Hid (∀ W : World, Below wr.heap.size wr W → (convert 22 9 (.slice A n c)).run Try.prog W = .ok (.string (st l)) W) := fun W hW => str_of (hrd.up hbw) hW
      have hcd := CV.out wr.drew (Below.refl _ _).drew
      go_wp2
      go_region_with (first
        | (go_at_call 10; refine (few_any A0 n0 c0 l0 40 _ ?_ hc0 hm0 (by omega)).mono ?_; exact (H0.out.up hb0).drew; rintro e w6 ⟨Az, nz, cz, lz, hlz, rfl, hownz, hb6⟩; obtain rfl : l = lz := HD.out.trans hlz.out.symm; have hc6 := CV.out w6 (below_of_drew hb6); have hcz := str_of (c := cz) hownz.rd (Below.refl _ _))
        | (go_at_call 15; refine (lives_any _).mono ?_; rintro e w7 ⟨rfl, hb7⟩))
      all_goals go_wp2
      all_goals go_ret
      all_goals exact ⟨rfl, Up.trans hb0 (Up.trans (below_of_drew hb6) hb7)⟩
end Go.Proofs.Ytopdogadednclaa
