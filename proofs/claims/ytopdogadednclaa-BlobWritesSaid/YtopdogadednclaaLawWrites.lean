/-
  Layer 12: the law BlobWrites, walked.
-/
import Derived.Test.YtopdogadednclaaBlobF
import Derived.Deep.RegionWith
namespace Go.Proofs.Ytopdogadednclaa
open Go.RowKit
set_option linter.unusedVariables false

theorem below_of_drew {a w : World} (h : Below a.drew.heap.size a.drew w) : Below a.heap.size a w := ⟨h.os, h.tape, h.output, h.size, h.block⟩

def RoundRel (most : Nat) (w1 : World) (i : Value) (wr : World) : Prop := ∃ j : Nat, j ≤ most ∧ i = .int .i64 j ∧ Below w1.heap.size w1 wr

theorem cell3 (w : World) (x y z : Nat) (hx : x ≤ 9223372036854775807) (hy : y ≤ 9223372036854775807) (hz : z ≤ 9223372036854775807) (t : TypeId) :
    ∀ j, j < 3 → ∃ o : Nat, o ≤ 9223372036854775807 ∧ (w.alloc (.cells #[.int .i64 x, .int .i64 y, .int .i64 z] t)).cell? ⟨w.heap.size, j, none⟩ = some (.int .i64 o) := by
  intro j hj
  have h : (w.alloc (.cells #[.int .i64 x, .int .i64 y, .int .i64 z] t)).heap[w.heap.size]? = some (.cells #[.int .i64 x, .int .i64 y, .int .i64 z] t) := heap_alloc_new w _
  simp only [World.cell?, h]
  match j, hj with
  | 0, _ => exact ⟨x, hx, rfl⟩
  | 1, _ => exact ⟨y, hy, rfl⟩
  | 2, _ => exact ⟨z, hz, rfl⟩

set_option maxHeartbeats 1000000 in
theorem blobWrites_walk (A0 : Option Addr) (n0 c0 : Nat) (l0 : List UInt8) (off : Int) (A2 : Option Addr) (n2 c2 : Nat) (l2 : List UInt8) (w : World)
    (h0 : RdB w w.heap.size A0 n0 l0) (hc0 : n0 ≤ c0) (hm0 : c0 ≤ maxLen) (o0 : -9223372036854775808 ≤ off) (o1 : off ≤ 9223372036854775807) (h2 : RdB w w.heap.size A2 n2 l2) (hc2 : n2 ≤ c2) (hm2 : c2 ≤ maxLen) :
    Calls Try.prog 3 #[.slice A0 n0 c0, .int .i64 off, .slice A2 n2 c2] w fun e w' => e = .returned (.bool true) ∧ Below w.heap.size w w' := by
  have H0 := Lib.hid h0
  have H2 := Lib.hid h2
  clear h0 h2
  go_enter Try.func3, Try.ntmps3
  go_wp2_with fail
  refine (few_any A0 n0 c0 l0 40 _ H0.out hc0 hm0 (by omega)).mono ?_
  rintro e w1 ⟨A, n, c, l, hl, rfl, hown, hb1⟩
  go_wp2_with fail
  refine (few_any A2 n2 c2 l2 30 _ (H2.out.up hb1) hc2 hm2 (by omega)).mono ?_
  rintro e w2 ⟨A', n', c', d, hd, rfl, hown', hb2⟩
  go_wp2_with fail
  refine (from_any off _ o0 o1).mono ?_
  rintro e w' ⟨f1, hf1, hf1b, rfl, rfl⟩
  go_wp2_with fail
  refine (around_any off 61 _ o0 o1 (by omega) (by omega)).mono ?_
  rintro e w' ⟨f2, hf2, hf2b, rfl, rfl⟩
  have hn40 : n ≤ 40 := by rw [← hown.len, hl.out, List.length_take]; omega
  have hn30 : n' ≤ 30 := by rw [← hown'.len, hd.out, List.length_take]; omega
  go_wp2
  have hoffs := cell3 w2 f1 f2 2040 hf1b (by omega) (by omega) 3
  have hb3 : Below w2.heap.size w2 (w2.alloc (.cells #[.int .i64 f1, .int .i64 f2, .int .i64 (2040 : Nat)] 3)) := (Below.refl _ _).alloc (Nat.le_refl _) _
  have hs3 : (w2.alloc (.cells #[.int .i64 f1, .int .i64 f2, .int .i64 (2040 : Nat)] 3)).heap.size = w2.heap.size + 1 := by simp
  have hw : Hid (w2.alloc (.cells #[.int .i64 f1, .int .i64 f2, .int .i64 (2040 : Nat)] 3) = w2.alloc (.cells #[.int .i64 f1, .int .i64 f2, .int .i64 2040] 3)) := rfl
  generalize w2.alloc (.cells #[.int .i64 f1, .int .i64 f2, .int .i64 (2040 : Nat)] 3) = w3 at hoffs hb3 hs3 hw
  rw [← hw.out]
  have hown3 := hown.up (hb2.trans (hb3.mono hb2.size))
  have hown3' := hown'.up hb3
  have hrd := hown3.rd
  have hrd' := hown3'.rd
  have HO := Lib.hid hoffs
  have HS := Lib.hid hs3
  clear hoffs hw hown hown' hs3
  go_loopw [10] (fun i wr => RoundRel 3 w3 i wr) (fun i _ => 3 - (intOf i).toNat)
  case atStart => exact ⟨0, by omega, rfl, Below.refl _ _⟩
  case round =>
    obtain ⟨j, hj, rfl, hbw⟩ := hrel
    by_cases hlt : j < 3
    · obtain ⟨o, hob, hcell⟩ := HO.out j hlt
      have hcr : wr.cell? ⟨w2.heap.size, j, none⟩ = some (.int .i64 o) := by
        rw [hbw.cell (by show w2.heap.size < _; rw [HS.out]; omega)]; exact hcell
      have hj3 : (j : Int) < 3 := by omega
      go_wp2_with fail
      refine (write_any A n c l o A' n' c' d _ (hrd.up hbw) (by omega) (hrd'.up hbw) (by omega) hob).mono ?_
      rintro e w4 ⟨Ax, nx, cx, lx, Ex, hlx, hEx, rfl, hownx, hbx⟩
      go_wp2
      have cv : ∀ W : World, Below w4.heap.size w4 W → (convert 22 9 (.slice A n c)).run Try.prog W = .ok (.string (st l)) W ∧ (convert 22 9 (.slice A' n' c')).run Try.prog W = .ok (.string (st d)) W ∧ W.cell? ⟨w2.heap.size, j, none⟩ = some (.int .i64 o) := by
        intro W hW
        have hx := hbw.trans (hbx.mono hbw.size)
        refine ⟨run_bytes_string _ _ _ Try.underlying22 Try.underlying5 Try.underlying9 ((hrd.up hx).below hW), run_bytes_string _ _ _ Try.underlying22 Try.underlying5 Try.underlying9 ((hrd'.up hx).below hW), ?_⟩
        have hlt4 : w2.heap.size < w4.heap.size := by have := hbw.size; have := hbx.size; have := HS.out; omega
        rw [hW.cell hlt4, hbx.cell (by show w2.heap.size < _; have := hbw.size; have := HS.out; omega)]
        exact hcr
      have CV := Lib.hid cv
      clear cv hcr
      go_region_held3 (fun W => (convert 22 9 (.slice A n c)).run Try.prog W = .ok (.string (st l)) W ∧ (convert 22 9 (.slice A' n' c')).run Try.prog W = .ok (.string (st d)) W ∧ W.cell? ⟨w2.heap.size, j, none⟩ = some (.int .i64 o))
        (first | exact CV.out _ (Below.refl _ _) | exact CV.out _ ((Below.refl _ _).drew) | exact CV.out _ (below_of_drew hb5))
        (first | (go_at_call 14; refine (refWrite_any l o d _ ?_ ?_ hob).mono ?_; (rw [hown3.len]; omega); (rw [hown3'.len]; omega); rintro e w5 ⟨ly, Ey, hly, hEy, rfl, hb5⟩))
      obtain rfl : lx = ly := hlx.out.trans hly.out.symm
      obtain rfl : Ex = Ey := hEx.out.trans hEy.out.symm
      have hb5' := below_of_drew hb5
      have hcx := run_bytes_string (P := Try.prog) (c := cx) _ _ _ Try.underlying22 Try.underlying5 Try.underlying9 (hownx.rd.below hb5')
      have hbn := (hbw.trans (hbx.mono hbw.size)).trans (hb5'.mono (Nat.le_trans hbw.size hbx.size))
      clear hlx hly hEx hEy CV hb5
      go_wp2
      go_roundw
      case rel => exact ⟨j + 1, by omega, by go_num, hbn⟩
      case measure => simp [intOf]; omega
    · obtain rfl : j = 3 := by omega
      clear HO HS
      have hd25 : l = l0.take 40 := hl.out
      have HD := Lib.hid hd25
      clear hd25
      have hb0 : Below w.heap.size w wr := (hb1.trans (hb2.mono hb1.size)).trans ((hb3.mono (Nat.le_trans hb1.size hb2.size)).trans (hbw.mono (Nat.le_trans hb1.size (Nat.le_trans hb2.size hb3.size))))
      have cv : ∀ W : World, Below wr.heap.size wr W → (convert 22 9 (.slice A n c)).run Try.prog W = .ok (.string (st l)) W := fun W hW =>
        run_bytes_string _ _ _ Try.underlying22 Try.underlying5 Try.underlying9 ((hrd.up hbw).below hW)
      have CV := Lib.hid cv
      have hcd := cv wr.drew (Below.refl _ _).drew
      clear cv
      go_wp2
      go_region_with (first
        | (go_at_call 10; refine (few_any A0 n0 c0 l0 40 _ ?_ hc0 hm0 (by omega)).mono ?_; exact (H0.out.up hb0).drew; rintro e w6 ⟨Az, nz, cz, lz, hlz, rfl, hownz, hb6⟩; obtain rfl : l = lz := HD.out.trans hlz.out.symm; have hc6 := CV.out w6 (below_of_drew hb6); have hcz := run_bytes_string (P := Try.prog) (c := cz) _ _ _ Try.underlying22 Try.underlying5 Try.underlying9 hownz.rd)
        | (go_at_call 15; refine (lives_any _).mono ?_; rintro e w7 ⟨rfl, hb7⟩))
      all_goals go_wp2
      all_goals go_ret
      all_goals exact ⟨rfl, hb0.trans ((below_of_drew hb6).trans (hb7.mono hb6.size) |>.mono hb0.size)⟩
end Go.Proofs.Ytopdogadednclaa
