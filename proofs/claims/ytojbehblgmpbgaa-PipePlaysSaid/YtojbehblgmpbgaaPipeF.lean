/-
  Layer 5: lives.
-/
import Derived.Test.YtojbehblgmpbgaaPipeE
import Derived.Lib.SlBytesConst
namespace Go.Proofs.Ytojbehblgmpbgaa
open Go.RowKit Go.Conc
set_option linter.unusedVariables false
set_option linter.unusedSimpArgs false

theorem lv_pieces : pieces 3 [2, 0] 0 [[97, 98, 99]] = [[97, 98], [], [99]] := by
  simp [pieces, pieceOf, nextL, nextAt, takeN, total, eat, absL]
theorem lv_ends : Ends 3 [2, 0] 0 [[97, 98, 99]] := by
  simp [Ends, pieceOf, nextL, nextAt, takeN, total, eat, absL]
theorem may_20 : MayS (scr [2, 0]) := by
  refine ⟨?_, 2, ?_, by omega⟩ <;> simp [scr]
theorem sizes_20 : Sizes [2, 0] := ⟨by simp, by simp⟩

/-- The three parts of the example. -/
theorem lv_rows (w : World) : RdBB (((w.alloc (.cells #[.int .u8 97, .int .u8 98] 5 (2, 3))).alloc (.cells #[.int .u8 99] 5 (1, 2))).alloc (.cells #[.slice (some ⟨w.heap.size, 0, none⟩) 2 2, .slice none 0 0, .slice (some ⟨w.heap.size + 1, 0, none⟩) 1 1] 22))
    (((w.alloc (.cells #[.int .u8 97, .int .u8 98] 5 (2, 3))).alloc (.cells #[.int .u8 99] 5 (1, 2))).alloc (.cells #[.slice (some ⟨w.heap.size, 0, none⟩) 2 2, .slice none 0 0, .slice (some ⟨w.heap.size + 1, 0, none⟩) 1 1] 22)).heap.size (some ⟨w.heap.size + 2, 0, none⟩) 3 [[97, 98], [], [99]] := by
  obtain ⟨w1, hw1⟩ : ∃ w1, w1 = w.alloc (.cells #[.int .u8 97, .int .u8 98] 5 (2, 3)) := ⟨_, rfl⟩
  obtain ⟨w2, hw2⟩ : ∃ w2, w2 = w1.alloc (.cells #[.int .u8 99] 5 (1, 2)) := ⟨_, rfl⟩
  have s1 : w1.heap.size = w.heap.size + 1 := by rw [hw1]; simp
  have s2 : w2.heap.size = w.heap.size + 2 := by rw [hw2]; simp [s1]
  have r1 : RdB w1 (w.heap.size + 1) (some ⟨w.heap.size, 0, none⟩) 2 [97, 98] := by rw [hw1]; exact RdB.new w [97, 98] _ rfl _ _
  have r2 : RdB w2 (w1.heap.size + 1) (some ⟨w1.heap.size, 0, none⟩) 1 [99] := by rw [hw2]; exact RdB.new w1 [99] _ rfl _ _
  have hb2 : Below w1.heap.size w1 w2 := by rw [hw2]; exact (Below.refl _ _).alloc (Nat.le_refl _) _
  rw [← hw1, ← hw2]
  have hB := Blk.new w2 22 [.slice (some ⟨w.heap.size, 0, none⟩) 2 2, .slice none 0 0, .slice (some ⟨w.heap.size + 1, 0, none⟩) 1 1]
  have hb3 : Below w2.heap.size w2 (w2.alloc (.cells #[.slice (some ⟨w.heap.size, 0, none⟩) 2 2, .slice none 0 0, .slice (some ⟨w.heap.size + 1, 0, none⟩) 1 1] 22)) := (Below.refl _ _).alloc (Nat.le_refl _) _
  have hs3 := hB.lt
  rw [s2] at hB
  refine ⟨rfl, fun _ => ⟨w.heap.size + 2, 0, rfl, by omega, fun i l hl => ?_⟩⟩
  match i, hl with
  | 0, hl =>
    obtain rfl : [97, 98] = l := by simpa using hl
    exact ⟨_, 2, 2, hB.cell 0 _ rfl, ((((r1.more (by omega)).up hb2).below (hb3.mono (by omega))).more (by omega)), by omega, by unfold maxLen; omega⟩
  | 1, hl =>
    obtain rfl : [] = l := by simpa using hl
    exact ⟨_, 0, 0, hB.cell 1 _ rfl, RdB.nil, by omega, by unfold maxLen; omega⟩
  | 2, hl =>
    obtain rfl : [99] = l := by simpa using hl
    have e : w1.heap.size = w.heap.size + 1 := s1
    rw [e] at r2
    exact ⟨_, 1, 1, hB.cell 2 _ rfl, ((r2.more (by omega : w.heap.size + 1 + 1 ≤ w2.heap.size)).below (hb3.mono (by omega))).more (by omega), by omega, by unfold maxLen; omega⟩
  | i + 3, hl => simp at hl

set_option maxRecDepth 100000 in
set_option maxHeartbeats 4000000 in
theorem plives_any (w : World) : Calls Try.prog 13 #[] w fun e w' => e = .returned (.bool true) ∧ Below w.heap.size w w' := by
  have hr0 : RdV (w.alloc (.cells #[.int .i64 2, .int .i64 0] 3)) (w.alloc (.cells #[.int .i64 2, .int .i64 0] 3)).heap.size (some ⟨w.heap.size, 0, none⟩) 2 (iv [2, 0]) := by
    have := RdV.new w (iv [2, 0]) #[.int .i64 2, .int .i64 0] rfl 3 (0, 0)
    exact this.more (by simp)
  have hb0 : Below w.heap.size w (w.alloc (.cells #[.int .i64 2, .int .i64 0] 3)) := (Below.refl _ _).alloc (Nat.le_refl _) _
  go_enter Try.func13, Try.ntmps13
  go_wp2_with fail
  refine (newp_any _ 2 2 [2, 0] _ hr0 (by omega)).mono ?_
  clear hr0
  rintro e w1 (⟨_, g, ct, cr, D, rfl, hpl, ht, hd, hb1⟩ | ⟨h, _⟩)
  · have e20 : scr [2, 0] = [2, 0] := by simp [scr]
    rw [e20] at hpl
    have HPL := Lib.hid hpl
    have HT := Lib.hid ht
    have HD := Lib.hid hd
    have HB1 := Lib.hid (hb0.trans (hb1.mono hb0.size))
    have hsz0 : w.heap.size < (w.alloc (.cells #[.int .i64 2, .int .i64 0] 3)).heap.size := by simp
    clear hpl ht hd hb0 hb1 e20
    have hr1 : RdB (w1.alloc (.cells #[.int .u8 97, .int .u8 98, .int .u8 99] 5 (3, 4))) (w1.alloc (.cells #[.int .u8 97, .int .u8 98, .int .u8 99] 5 (3, 4))).heap.size (some ⟨w1.heap.size, 0, none⟩) 3 [97, 98, 99] := (RdB.new w1 [97, 98, 99] _ rfl _ _).more (by simp)
    have hb2 : Below w1.heap.size w1 (w1.alloc (.cells #[.int .u8 97, .int .u8 98, .int .u8 99] 5 (3, 4))) := (Below.refl _ _).alloc (Nat.le_refl _) _
    have hpl2 := HPL.out.up hb2
    have HR1 := Lib.hid hr1
    have HB2 := Lib.hid hb2
    have HPL2 := Lib.hid hpl2
    clear hr1 hb2 hpl2
    have kc : (convert 22 22 (.slice (some ⟨w1.heap.size, 0, none⟩) 3 3)).run Try.prog (w1.alloc (.cells #[.int .u8 97, .int .u8 98, .int .u8 99] 5)) = .ok (.slice (some ⟨w1.heap.size, 0, none⟩) 3 3) (w1.alloc (.cells #[.int .u8 97, .int .u8 98, .int .u8 99] 5 (3, 4))) :=
      Lib.run_convert_bytes_const (P := Try.prog) w1 22 5 _ 3 3 Try.underlying22 Try.underlying5
    go_wp2_with fail
    refine (send_any g ct cr D [2, 0] 0 [] _ 3 3 [97, 98, 99] _ HPL2.out GoodL.nil HR1.out (by omega)).mono ?_
    rintro e w2 (⟨h, _⟩ | ⟨_, h, _⟩ | ⟨_, _, rfl, D', hpl3, hD1, hD2, hk3⟩)
    · simp at h
    · simp at h
    · have HPL3 := Lib.hid hpl3
      have HK3 := Lib.hid hk3
      clear hpl3 hk3 hD1 hD2
      go_wp2_with fail
      refine (drain_any g ct cr D' [2, 0] 0 [[97, 98, 99]] 3 _ HPL3.out (GoodL.nil.snoc (by simp) (by simp) (by simp)) sizes_20 (by simp) (by omega) lv_ends).mono ?_
      rintro e w3 ⟨A, n, c, ls, at_, hls, rfl, hown, hpl4, _, hk4⟩
      rw [lv_pieces] at hls
      have hn3 : n ≤ 1048576 := by rw [← hown.len, hls.out]; simp
      have hrd := hown.rd
      rw [hls.out] at hrd
      have hlv := lv_rows w3
      have hb5 : Below w3.heap.size w3 (((w3.alloc (.cells #[.int .u8 97, .int .u8 98] 5 (2, 3))).alloc (.cells #[.int .u8 99] 5 (1, 2))).alloc (.cells #[.slice (some ⟨w3.heap.size, 0, none⟩) 2 2, .slice none 0 0, .slice (some ⟨w3.heap.size + 1, 0, none⟩) 1 1] 22)) :=
        (((Below.refl _ _).alloc (Nat.le_refl _) _).alloc (by simp) _).alloc (by simp; omega) _
      have HRD := Lib.hid ((hrd.up hb5).more hb5.size)
      have HLV := Lib.hid hlv
      have HK4 := Lib.hid hk4
      have HB5 := Lib.hid hb5
      clear hown hpl4 hk4 hrd hlv hb5
      have kc1 : (convert 22 22 (.slice (some ⟨w3.heap.size, 0, none⟩) 2 2)).run Try.prog (w3.alloc (.cells #[.int .u8 97, .int .u8 98] 5)) = .ok (.slice (some ⟨w3.heap.size, 0, none⟩) 2 2) (w3.alloc (.cells #[.int .u8 97, .int .u8 98] 5 (2, 3))) :=
        Lib.run_convert_bytes_const (P := Try.prog) w3 22 5 _ 2 2 Try.underlying22 Try.underlying5
      have kc2 : (convert 22 22 (.slice (some ⟨w3.heap.size + 1, 0, none⟩) 1 1)).run Try.prog ((w3.alloc (.cells #[.int .u8 97, .int .u8 98] 5 (2, 3))).alloc (.cells #[.int .u8 99] 5)) = .ok (.slice (some ⟨w3.heap.size + 1, 0, none⟩) 1 1) ((w3.alloc (.cells #[.int .u8 97, .int .u8 98] 5 (2, 3))).alloc (.cells #[.int .u8 99] 5 (1, 2))) := by
        have h7 := Lib.run_convert_bytes_const (P := Try.prog) (w3.alloc (.cells #[.int .u8 97, .int .u8 98] 5 (2, 3))) 22 5 #[.int .u8 99] 1 1 Try.underlying22 Try.underlying5
        have h8 : (w3.alloc (.cells #[.int .u8 97, .int .u8 98] 5 (2, 3))).heap.size = w3.heap.size + 1 := by simp
        rw [h8] at h7
        exact h7
      clear kc
      go_wp2_with fail
      refine (sameBytes_eq A n c _ 3 3 _ _ HRD.out HLV.out hn3).mono ?_
      rintro e w5 ⟨rfl, hb6⟩
      go_wp2
      go_ret
      refine ⟨rfl, ?_⟩
      have hT : ∀ k, k < w.heap.size → ¬ Tri g ct cr k := fun k hk ht => by have := HT.out k ht; omega
      have k1 : Keeps (Tri g ct cr) w w1 := Keeps.of_below HB1.out
      have k2 := ((k1.trans (Keeps.of_below HB2.out)).trans HK3.out).trans HK4.out
      have k3 := (k2.trans (Keeps.of_below HB5.out)).trans (Keeps.of_below hb6)
      exact k3.under (Nat.le_refl _) hT
  · exact absurd may_20 h
end Go.Proofs.Ytojbehblgmpbgaa
