/-
  Layer 12: the law BlobReads, walked.
-/
import Derived.Test.YtopdogadednclaaLawA
namespace Go.Proofs.Ytopdogadednclaa
open Go.RowKit
set_option linter.unusedVariables false

set_option maxHeartbeats 1000000 in
theorem blobReads_walk (A0 : Option Addr) (n0 c0 : Nat) (l0 : List UInt8) (off m : Int) (w : World)
    (h0 : RdB w w.heap.size A0 n0 l0) (hc0 : n0 ≤ c0) (hm0 : c0 ≤ maxLen) (o0 : -9223372036854775808 ≤ off) (o1 : off ≤ 9223372036854775807) (m0 : -9223372036854775808 ≤ m) (m1 : m ≤ 9223372036854775807) :
    Calls Try.prog 6 #[.slice A0 n0 c0, .int .i64 off, .int .i64 m] w fun e w' => e = .returned (.bool true) ∧ Below w.heap.size w w' := by
  have H0 := Lib.hid h0
  clear h0
  go_enter Try.func6, Try.ntmps6
  go_wp2_with fail
  refine (few_any A0 n0 c0 l0 40 _ H0.out hc0 hm0 (by omega)).mono ?_
  rintro e w2 ⟨A, n, c, l, hl, rfl, hown, hb1⟩
  go_wp2_with fail
  refine (from_any off _ o0 o1).mono ?_
  rintro e w' ⟨f1, hf1, hf1b, rfl, rfl⟩
  go_wp2_with fail
  refine (around_any off 45 _ o0 o1 (by omega) (by omega)).mono ?_
  rintro e w' ⟨f2, hf2, hf2b, rfl, rfl⟩
  go_wp2_with fail
  refine (from_any m _ m0 m1).mono ?_
  rintro e w' ⟨g1, hg1, hg1b, rfl, hw'⟩
  rw [← hw']
  clear hw'
  go_wp2_with fail
  refine (around_any m 45 _ m0 m1 (by omega) (by omega)).mono ?_
  rintro e w'' ⟨g2, hg2, hg2b, rfl, hw'⟩
  rw [← hw']
  clear hw'
  have hn40 : n ≤ 40 := by rw [← hown.len, hl.out, List.length_take]; omega
  go_wp2
  have hoffs := cell2 w2 f1 f2 hf1b (by omega) 3
  have hb3 : Below w2.heap.size w2 (w2.alloc (.cells #[.int .i64 f1, .int .i64 f2] 3)) := (Below.refl _ _).alloc (Nat.le_refl _) _
  have hs3 : (w2.alloc (.cells #[.int .i64 f1, .int .i64 f2] 3)).heap.size = w2.heap.size + 1 := by simp
  generalize w2.alloc (.cells #[.int .i64 f1, .int .i64 f2] 3) = w3 at hoffs hb3 hs3 ⊢
  have hns := cell2 w3 g1 g2 hg1b (by omega) 3
  have hb4 : Below w3.heap.size w3 (w3.alloc (.cells #[.int .i64 g1, .int .i64 g2] 3)) := (Below.refl _ _).alloc (Nat.le_refl _) _
  have hs4 : (w3.alloc (.cells #[.int .i64 g1, .int .i64 g2] 3)).heap.size = w3.heap.size + 1 := by simp
  generalize w3.alloc (.cells #[.int .i64 g1, .int .i64 g2] 3) = w4 at hns hb4 hs4 ⊢
  rw [hs3] at hns hs4
  have hown3 := (hown.up hb3).up hb4
  have hrd := hown3.rd
  have hcap := hown3.cap
  have hoffs4 : ∀ j, j < 2 → ∃ o : Nat, o ≤ 9223372036854775807 ∧ w4.cell? ⟨w2.heap.size, j, none⟩ = some (.int .i64 o) := by
    intro j hj
    obtain ⟨o, h1, h2⟩ := hoffs j hj
    exact ⟨o, h1, by rw [hb4.cell (by show w2.heap.size < _; omega)]; exact h2⟩
  have HO := Lib.hid hoffs4
  have HN := Lib.hid hns
  have HS := Lib.hid hs4
  clear hoffs hoffs4 hns hown hs3 hs4
  go_loopw [10] (fun i wr => RoundRel 2 w4 i wr) (fun i _ => 2 - (intOf i).toNat)
  case atStart => exact ⟨0, by omega, rfl, Below.refl _ _⟩
  case round =>
    obtain ⟨j, hj, rfl, hbw⟩ := hrel
    by_cases hlt : j < 2
    · obtain ⟨o, hob, hcell⟩ := HO.out j hlt
      have hj3 : (j : Int) < 2 := by omega
      obtain ⟨wo, rfl⟩ : ∃ wo : World, wo = wr := ⟨_, rfl⟩
      go_wp2
      go_loopw [11] (fun i wr => RoundRel 2 w4 i wr) (fun i _ => 2 - (intOf i).toNat)
      case atStart => exact ⟨0, by omega, rfl, hbw⟩
      case round =>
        obtain ⟨k, hk, rfl, hbw2⟩ := hrel
        by_cases hlt2 : k < 2
        · obtain ⟨m', hmb, hcell2⟩ := HN.out k hlt2
          have hk3 : (k : Int) < 2 := by omega
          have cv : ∀ W : World, Below wr.heap.size wr W → (convert 22 9 (.slice A n c)).run Try.prog W = .ok (.string (st l)) W ∧ W.cell? ⟨w2.heap.size, j, none⟩ = some (.int .i64 o) ∧ W.cell? ⟨w2.heap.size + 1, k, none⟩ = some (.int .i64 m') := by
            intro W hW
            have hb := Up.trans hbw2 hW
            refine ⟨str_of hrd hb, ?_, ?_⟩
            · rw [hb.cell (by show w2.heap.size < _; have := HS.out; omega)]; exact hcell
            · rw [hb.cell (by show w2.heap.size + 1 < _; have := HS.out; omega)]; exact hcell2
          have CV := Lib.hid cv
          clear cv
          go_wp2
          go_region_held3 (fun W => (convert 22 9 (.slice A n c)).run Try.prog W = .ok (.string (st l)) W ∧ W.cell? ⟨w2.heap.size, j, none⟩ = some (.int .i64 o) ∧ W.cell? ⟨w2.heap.size + 1, k, none⟩ = some (.int .i64 m'))
            (first | exact CV.out _ ((Below.refl _ _).drew) | exact CV.out _ (below_of_drew hb5))
            (first | (go_at_call 18; refine (read_any A n c l o m' _ ?_ ?_ hcap.1 hcap.2 hob hmb).mono ?_; exact (hrd.up hbw2).drew; omega; rintro e w5 ⟨Ax, nx, cx, lx, Ex, hlx, hEx, rfl, hownx, hb5⟩))
          have hb5' := below_of_drew hb5
          clear hb5
          go_wp2
          go_region_held3 (fun W => (convert 22 9 (.slice A n c)).run Try.prog W = .ok (.string (st l)) W ∧ W.cell? ⟨w2.heap.size, j, none⟩ = some (.int .i64 o) ∧ W.cell? ⟨w2.heap.size + 1, k, none⟩ = some (.int .i64 m'))
            (first | exact CV.out _ (Up.trans hb5' ((Below.refl _ _).drew)))
            (first | (go_at_call 19; refine (refRead_any l o m' _ ?_ hob hmb).mono ?_; (rw [hown3.len]; omega); rintro e w' ⟨ly, Ey, hly, hEy, rfl, rfl⟩))
          obtain rfl : lx = ly := hlx.out.trans hly.out.symm
          obtain rfl : Ex = Ey := hEx.out.trans hEy.out.symm
          have hcx := str_of (c := cx) (W := w5.drew) hownx.rd ((Below.refl _ _).drew)
          have hbn := (Up.trans hbw2 hb5').drew
          clear hlx hly hEx hEy CV
          go_wp2
          go_roundw
          case rel => exact ⟨k + 1, by omega, by go_num, hbn⟩
          case measure => simp [intOf]; omega
        · go_wp2
          go_roundw
          case rel => exact ⟨j + 1, by omega, by go_num, hbw2⟩
          case measure => simp [intOf]; omega
    · go_wp2_with fail
      refine (lives_any _).mono ?_
      rintro e w7 ⟨rfl, hb7⟩
      go_wp2
      go_ret
      exact ⟨rfl, Up.trans hb1 (Up.trans hb3 (Up.trans hb4 (Up.trans hbw hb7)))⟩
end Go.Proofs.Ytopdogadednclaa
