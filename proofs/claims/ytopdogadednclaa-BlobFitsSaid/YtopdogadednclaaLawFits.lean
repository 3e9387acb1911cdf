/-
  Layer 12: the law BlobFits, walked.
-/
import Derived.Test.YtopdogadednclaaBlobF
namespace Go.Proofs.Ytopdogadednclaa
open Go.RowKit
set_option linter.unusedVariables false

set_option maxHeartbeats 1000000 in
theorem blobFits_walk (size off n room : Int) (w : World) (s0 : -9223372036854775808 ≤ size) (s1 : size ≤ 9223372036854775807) (o0 : -9223372036854775808 ≤ off) (o1 : off ≤ 9223372036854775807)
    (n0 : -9223372036854775808 ≤ n) (n1 : n ≤ 9223372036854775807) (r0 : -9223372036854775808 ≤ room) (r1 : room ≤ 9223372036854775807) :
    Calls Try.prog 8 #[.int .i64 size, .int .i64 off, .int .i64 n, .int .i64 room] w fun e w' => e = .returned (.bool true) ∧ Below w.heap.size w w' := by
  go_enter Try.func8, Try.ntmps8
  go_wp2_with fail
  refine (around_any size 2049 _ s0 s1 (by omega) (by omega)).mono ?_
  rintro e w' ⟨s, hs, hs2, rfl, rfl⟩
  go_wp2_with fail
  refine (around_any size 60 _ s0 s1 (by omega) (by omega)).mono ?_
  rintro e w' ⟨small, hsm, hsm2, rfl, rfl⟩
  go_wp2_with fail
  refine (from_any off _ o0 o1).mono ?_
  rintro e w' ⟨f1, hf1, hf1b, rfl, rfl⟩
  go_wp2_with fail
  refine (from_any n _ n0 n1).mono ?_
  rintro e w' ⟨f2, hf2, hf2b, rfl, rfl⟩
  go_wp2_with fail
  refine (from_any room _ r0 r1).mono ?_
  rintro e w' ⟨f3, hf3, hf3b, rfl, rfl⟩
  go_wp2_with fail
  refine (fits_any s f1 f2 f3 _ (by omega) hf1b hf2b hf3b).mono ?_
  rintro e w' ⟨E1, hE1, rfl, rfl⟩
  go_wp2_with fail
  refine (from_any off _ o0 o1).mono ?_
  rintro e w' ⟨f1', hf1', hf1b', rfl, rfl⟩
  obtain rfl : f1 = f1' := by have := hf1.out; have := hf1'.out; omega
  go_wp2_with fail
  refine (from_any n _ n0 n1).mono ?_
  rintro e w' ⟨f2', hf2', hf2b', rfl, rfl⟩
  obtain rfl : f2 = f2' := by have := hf2.out; have := hf2'.out; omega
  go_wp2_with fail
  refine (from_any room _ r0 r1).mono ?_
  rintro e w' ⟨f3', hf3', hf3b', rfl, rfl⟩
  obtain rfl : f3 = f3' := by have := hf3.out; have := hf3'.out; omega
  go_wp2_with fail
  refine (refFits_any s f1 f2 f3 _ (by omega) hf1b hf2b hf3b).mono ?_
  rintro e w' ⟨E2, hE2, rfl, rfl⟩
  obtain rfl : E1 = E2 := hE1.out.trans hE2.out.symm
  clear hE1 hE2 hf1' hf1b' hf2' hf2b' hf3' hf3b'
  go_wp2_with fail
  refine (around_any off 101 _ o0 o1 (by omega) (by omega)).mono ?_
  rintro e w' ⟨k1, hk1, hk1b, rfl, rfl⟩
  go_wp2_with fail
  refine (around_any n 101 _ n0 n1 (by omega) (by omega)).mono ?_
  rintro e w' ⟨k2, hk2, hk2b, rfl, rfl⟩
  go_wp2_with fail
  refine (around_any room 101 _ r0 r1 (by omega) (by omega)).mono ?_
  rintro e w' ⟨k3, hk3, hk3b, rfl, rfl⟩
  go_wp2_with fail
  refine (fits_any small k1 k2 k3 _ (by omega) (by omega) (by omega) (by omega)).mono ?_
  rintro e w' ⟨E3, hE3, rfl, rfl⟩
  go_wp2_with fail
  refine (refFits_any small k1 k2 k3 _ (by omega) (by omega) (by omega) (by omega)).mono ?_
  rintro e w' ⟨E4, hE4, rfl, rfl⟩
  obtain rfl : E3 = E4 := hE3.out.trans hE4.out.symm
  clear hE3 hE4
  go_wp2_with fail
  refine (lives_any _).mono ?_
  rintro e w1 ⟨rfl, hb⟩
  go_wp2
  go_ret
  exact ⟨rfl, hb⟩
end Go.Proofs.Ytopdogadednclaa
