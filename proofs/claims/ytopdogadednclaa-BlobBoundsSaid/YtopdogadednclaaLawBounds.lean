/-
  Layer 12: the law BlobBounds, walked.
-/
import Derived.Test.YtopdogadednclaaLawA
import Derived.Test.YtopdogadednclaaLawTwice
namespace Go.Proofs.Ytopdogadednclaa
open Go.RowKit
set_option linter.unusedVariables false

theorem rep_len (m : Nat) (d : List UInt8) (h : d = List.replicate m 0) : d.length = m := by rw [h, List.length_replicate]
theorem wrE_big (off : Nat) (d : List UInt8) (h : 0 < d.length) (h2 : 2048 < off + d.length) : wrE off d = 15 := by unfold wrE big; rw [if_pos (by simp; omega)]
theorem wrE_none (off : Nat) (d : List UInt8) (h : d.length = 0) : wrE off d = 0 := by unfold wrE big; rw [if_neg (by simp; omega)]
theorem wrB_none (off : Nat) (d : List UInt8) (h : 0 < d.length) (h2 : off + d.length ≤ 2048) : (wrB [] off d).length = off + d.length := by
  rw [wrB_small _ _ _ h2, wrl_length, if_neg (by intro e; rw [e] at h; simp at h)]; simp

theorem wrB_zero (off : Nat) (d : List UInt8) (h : d.length = 0) : (wrB [] off d).length = 0 := by
  obtain rfl := List.eq_nil_of_length_eq_zero h
  unfold wrB big; rw [if_neg (by simp), wrl_nil]; rfl

def SmallRel (w1 : World) (i : Value) (wr : World) : Prop := ∃ j : Nat, j ≤ 2 ∧ i = .int .i64 j ∧ Below w1.heap.size w1 wr

set_option maxHeartbeats 4000000 in
set_option maxRecDepth 100000 in
theorem blobBounds_walk (off n size : Int) (w : World) (o0 : -9223372036854775808 ≤ off) (o1 : off ≤ 9223372036854775807) (n0 : -9223372036854775808 ≤ n) (n1 : n ≤ 9223372036854775807) (s0 : -9223372036854775808 ≤ size) (s1 : size ≤ 9223372036854775807) :
    Calls Try.prog 9 #[.int .i64 off, .int .i64 n, .int .i64 size] w fun e w' => e = .returned (.bool true) ∧ Below w.heap.size w w' := by
  go_enter Try.func9, Try.ntmps9
  go_wp2_with fail
  refine (around_any off 31 _ o0 o1 (by omega) (by omega)).mono ?_
  rintro e w' ⟨a, ha, hab, rfl, rfl⟩
  go_wp2_with fail
  refine (around_any n 31 _ n0 n1 (by omega) (by omega)).mono ?_
  rintro e w' ⟨b, hb, hbb, rfl, rfl⟩
  go_wp2_with fail
  refine (around_any n 31 _ n0 n1 (by omega) (by omega)).mono ?_
  rintro e w' ⟨b', hb', hbb', rfl, rfl⟩
  obtain rfl : b = b' := by have := hb.out; have := hb'.out; omega
  clear hb' hbb'
  go_wp2
  have hks : ∀ j, j < 2 → ∃ m : Nat, m ≤ 2060 ∧ (w.alloc (.cells #[.int .i64 b, .int .i64 (2030 + b)] 3)).cell? ⟨w.heap.size, j, none⟩ = some (.int .i64 m) := by
    intro j hj
    have h : (w.alloc (.cells #[.int .i64 b, .int .i64 (2030 + b)] 3)).heap[w.heap.size]? = some (.cells #[.int .i64 b, .int .i64 (2030 + b)] 3) := heap_alloc_new w _
    simp only [World.cell?, h]
    match j, hj with
    | 0, _ => exact ⟨b, by omega, rfl⟩
    | 1, _ => exact ⟨2030 + b, by omega, by simp⟩
  have hb3 : Below w.heap.size w (w.alloc (.cells #[.int .i64 b, .int .i64 (2030 + b)] 3)) := (Below.refl _ _).alloc (Nat.le_refl _) _
  have hs3 : (w.alloc (.cells #[.int .i64 b, .int .i64 (2030 + b)] 3)).heap.size = w.heap.size + 1 := by simp
  generalize w.alloc (.cells #[.int .i64 b, .int .i64 (2030 + b)] 3) = w3 at hks hb3 hs3 ⊢
  rw [show ((2030 : Int) + (a : Int)) = ((2030 + a : Nat) : Int) from by omega]
  obtain ⟨o, ho⟩ : ∃ o : Nat, o = 2030 + a := ⟨_, rfl⟩
  rw [← ho]
  have hob : 2030 ≤ o ∧ o ≤ 2060 := by omega
  have HO := Lib.hid hks
  have HS := Lib.hid hs3
  clear hks hs3 ho
  go_loopw [9] (fun i wr => SmallRel w3 i wr) (fun i _ => 2 - (intOf i).toNat)
  case atStart => exact ⟨0, by omega, rfl, Below.refl _ _⟩
  case round =>
    obtain ⟨j, hj, rfl, hbw⟩ := hrel
    by_cases hlt : j < 2
    · obtain ⟨m, hmb, hcell⟩ := HO.out j hlt
      have hcr : wr.cell? ⟨w.heap.size, j, none⟩ = some (.int .i64 m) := by
        rw [hbw.cell (by show w.heap.size < _; rw [HS.out]; omega)]; exact hcell
      have hj3 : (j : Int) < 2 := by omega
      go_wp2_with (first
        | (at_make; go_must (refine wpList_makeB bytesElem rfl (.tmp 36) (.tmp 36) rfl .i64 .i64 m m rfl rfl (Nat.le_refl _) (by omega) wr.heap.size (Nat.le_refl _) ?_); intro g1 d1 w4 hd1 hown4 hb4))
      refine (write_any none 0 0 [] o (some ⟨g1, 0, none⟩) m m d1 _ RdB.nil (by omega) hown4.rd (by omega) (by omega)).mono ?_
      rintro e w5 ⟨Ax, nx, cx, lx, Ex, hlx, hEx, rfl, hownx, hb5⟩
      have hb45 := Up.trans hb4 hb5
      have hlt5 : w.heap.size < wr.heap.size := by have := hbw.size; have := HS.out; omega
      have hcr5 : w5.cell? ⟨w.heap.size, j, none⟩ = some (.int .i64 m) := by
        rw [hb45.cell hlt5]; exact hcr
      go_wp2_with (first
        | (at_make; go_must (refine wpList_makeB bytesElem rfl (.tmp 45) (.tmp 45) rfl .i64 .i64 m m rfl rfl (Nat.le_refl _) (by omega) w5.heap.size (Nat.le_refl _) ?_); intro g2 d2 w6 hd2 hown6 hb6))
      refine (write_any none 0 0 [] 0 (some ⟨g2, 0, none⟩) m m d2 _ RdB.nil (by omega) hown6.rd (by omega) (by omega)).mono ?_
      rintro e w7 ⟨Ay, ny, cy, ly, Ey, hly, hEy, rfl, howny, hb7⟩
      have hb47 := Up.trans hb45 (Up.trans hb6 hb7)
      have hcr7 : w7.cell? ⟨w.heap.size, j, none⟩ = some (.int .i64 m) := by
        rw [hb47.cell hlt5]; exact hcr
      have e1 := rep_len m d1 hd1.out
      have e2 := rep_len m d2 hd2.out
      have hnx : lx.length = nx := hownx.len
      have hny : ly.length = ny := howny.len
      have HX := hlx.out
      have HY := hly.out
      have HE := hEx.out
      have HF := hEy.out
      have hbn := Up.trans hbw hb47
      clear hcr hcr5 hb4 hb5 hb6 hb7 hb45 hb47 hown4 hown6 hownx howny hlx hly hEx hEy hd1 hd2
      by_cases hm : m = 0
      · rw [wrE_none _ _ (by omega)] at HE HF
        subst HE HF
        obtain rfl : nx = 0 := by rw [← hnx, HX]; exact wrB_zero _ _ (by omega)
        obtain rfl : ny = 0 := by rw [← hny, HY]; exact wrB_zero _ _ (by omega)
        subst hm
        clear HX HY hnx hny e1 e2
        have hcr8 : w7.cell? ⟨w.heap.size, j, none⟩ = some (.int .i64 0) := hcr7
        clear hcr7
        go_wp2_with fail
        refine (fits_any 0 o 0 9999 _ (by omega) (by omega) (by omega) (by omega)).mono ?_
        rintro e w8 ⟨G, hG, rfl, rfl⟩
        obtain rfl : G = 0 := by rw [hG.out]; unfold fitsE big; rw [if_neg (by simp), if_neg (by omega)]
        clear hG
        go_wp2
        go_roundw
        case rel => exact ⟨j + 1, by omega, by go_num, hbn⟩
        case measure => simp [intOf]; omega
      · have t1 : decide ((0 : Int) < m) = true := by simp; omega
        have t2 : decide (0 < m) = true := by simp; omega
        by_cases hbig : 2048 < o + m
        · rw [wrE_big _ _ (by omega) (by omega)] at HE
          have t3 : decide ((2048 : Int) < (o : Int) + m) = true := by simp; omega
          by_cases hm2 : m ≤ 2048
          · rw [wrE_small _ _ (by omega)] at HF
            subst HE HF
            obtain rfl : ny = m := by rw [← hny, HY, wrB_none _ _ (by omega) (by omega)]; omega
            have t4 : decide ((ny : Int) ≤ 2048) = true := by simp; omega
            have t5 : decide (ny ≤ 2048) = true := by simp; omega
            clear HX HY hnx hny e1 e2
            go_wp2_with fail
            refine (fits_any 0 o ny 9999 _ (by omega) (by omega) (by omega) (by omega)).mono ?_
            rintro e w8 ⟨G, hG, rfl, rfl⟩
            obtain rfl : G = 15 := by rw [hG.out]; unfold fitsE big; rw [if_pos (by simp; omega)]
            clear hG
            go_wp2
            go_roundw
            case rel => exact ⟨j + 1, by omega, by go_num, hbn⟩
            case measure => simp [intOf]; omega
          · rw [wrE_big _ _ (by omega) (by omega)] at HF
            subst HE HF
            have t4 : decide ((m : Int) ≤ 2048) = false := by simp; omega
            have t5 : decide (m ≤ 2048) = false := by simp; omega
            clear HX HY hnx hny e1 e2
            go_wp2_with fail
            refine (fits_any 0 o m 9999 _ (by omega) (by omega) (by omega) (by omega)).mono ?_
            rintro e w8 ⟨G, hG, rfl, rfl⟩
            obtain rfl : G = 15 := by rw [hG.out]; unfold fitsE big; rw [if_pos (by simp; omega)]
            clear hG
            go_wp2
            go_roundw
            case rel => exact ⟨j + 1, by omega, by go_num, hbn⟩
            case measure => simp [intOf]; omega
        · rw [wrE_small _ _ (by omega)] at HE HF
          subst HE HF
          have t3 : decide ((2048 : Int) < (o : Int) + m) = false := by simp; omega
          obtain rfl : ny = m := by rw [← hny, HY, wrB_none _ _ (by omega) (by omega)]; omega
          obtain rfl : nx = o + ny := by rw [← hnx, HX, wrB_none _ _ (by omega) (by omega)]; omega
          have t4 : decide ((ny : Int) ≤ 2048) = true := by simp; omega
          have t5 : decide (ny ≤ 2048) = true := by simp; omega
          clear HX HY hnx hny e1 e2
          go_wp2_with fail
          refine (fits_any 0 o ny 9999 _ (by omega) (by omega) (by omega) (by omega)).mono ?_
          rintro e w8 ⟨G, hG, rfl, rfl⟩
          obtain rfl : G = 0 := by rw [hG.out]; unfold fitsE big; rw [if_neg (by simp; omega), if_neg (by omega)]
          clear hG
          go_wp2
          go_roundw
          case rel => exact ⟨j + 1, by omega, by go_num, hbn⟩
          case measure => simp [intOf]; omega
    · go_wp2_with fail
      refine (around_any size 31 _ s0 s1 (by omega) (by omega)).mono ?_
      rintro e w' ⟨z, hz, hzb, rfl, rfl⟩
      go_wp2_with fail
      rw [show ((2030 : Int) + (z : Int)) = ((2030 + z : Nat) : Int) from by omega]
      obtain ⟨s, hs⟩ : ∃ s : Nat, s = 2030 + z := ⟨_, rfl⟩
      rw [← hs]
      have hsb : 2030 ≤ s ∧ s ≤ 2060 := by omega
      refine (resize_any none 0 0 [] s _ RdB.nil (by omega) (by omega)).mono ?_
      rintro e w5 ⟨Ax, nx, cx, lx, Ex, hlx, hEx, rfl, hownx, hb5⟩
      have hnx : lx.length = nx := hownx.len
      have HX := hlx.out
      have HE := hEx.out
      have hs' : (2030 : Int) + z = s := by omega
      clear hlx hEx hs hownx
      by_cases hb2 : 2048 < s
      · unfold rzE at HE; rw [if_pos hb2] at HE; subst HE
        unfold rzB at HX; rw [if_pos hb2] at HX; subst HX
        obtain rfl : nx = 0 := hnx.symm
        have t1 : decide ((s : Int) ≤ 2048) = false := by simp; omega
        have t2 : decide (s ≤ 2048) = false := by simp; omega
        clear hnx
        go_wp2_with fail
        refine (lives_any _).mono ?_
        rintro e w7 ⟨rfl, hb7⟩
        go_wp2
        go_ret
        exact ⟨rfl, Up.trans hb3 (Up.trans hbw (Up.trans hb5 hb7))⟩
      · unfold rzE at HE; rw [if_neg hb2] at HE; subst HE
        unfold rzB at HX; rw [if_neg hb2] at HX
        obtain rfl : nx = s := by rw [← hnx, HX]; simp
        have t1 : decide ((nx : Int) ≤ 2048) = true := by simp; omega
        have t2 : decide (nx ≤ 2048) = true := by simp; omega
        clear hnx HX
        go_wp2_with fail
        refine (lives_any _).mono ?_
        rintro e w7 ⟨rfl, hb7⟩
        go_wp2
        go_ret
        exact ⟨rfl, Up.trans hb3 (Up.trans hbw (Up.trans hb5 hb7))⟩
end Go.Proofs.Ytopdogadednclaa
