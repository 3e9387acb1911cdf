/-
  Layer 2: the law LittleReads, walked.
-/
import Derived.Test.YthfepdgamhidgaaLittleT
namespace Go.Proofs.Ythfepdgamhidgaa
open Go.RowKit
set_option linter.unusedVariables false

/-- Two blocks. -/
def Two (a b : Nat) : Nat → Prop := fun k => k = a ∨ k = b

theorem str_own {G : Nat → Prop} {w : World} {base n c : Nat} {A : Option Addr} {l : List UInt8} (h : OwB w base A n c l) (hG : ∀ k, base ≤ k → ¬ G k) :
    ∀ p : Abv G w, (convert 22 9 (.slice A n c)).run Try.prog p.val = .ok (.string (st l)) p.val :=
  fun p => run_bytes_string _ _ _ Try.underlying22 Try.underlying5 Try.underlying9 (h.keeps p.keeps hG).rd
theorem str_rdG {G : Nat → Prop} {w : World} {B n c : Nat} {A : Option Addr} {l : List UInt8} (h : RdB w B A n l) (hB : B ≤ w.heap.size) (hG : ∀ k, k < B → ¬ G k) :
    ∀ p : Abv G w, (convert 22 9 (.slice A n c)).run Try.prog p.val = .ok (.string (st l)) p.val :=
  fun p => run_bytes_string _ _ _ Try.underlying22 Try.underlying5 Try.underlying9 (h.keeps p.keeps hB hG)
theorem Keeps.drew' {G : Nat → Prop} {w w' : World} (h : Keeps G w w') : Keeps G w w'.drew := ⟨h.os, h.tape, h.output, h.size, h.block⟩
theorem txL_le (l : List UInt8) (e : Int) : (txL l e).length ≤ l.length := Nat.le_trans (nxL_le _ _ _) (nxL_le _ _ _)
theorem dtL_le (l : List UInt8) (e most : Int) : (dtL l e most).length ≤ l.length := by
  unfold dtL
  split
  · simp
  · exact Nat.le_trans (nxL_le _ _ _) (nxL_le _ _ _)

def RdsRel (w0 : World) (B gr gw : Nat) (i : Value) (wr : World) : Prop := ∃ (j : Nat) (l : List UInt8) (e : Int), j ≤ 10 ∧ i = .int .i64 j ∧ l.length ≤ 60 ∧ Rdr wr gr l e ∧ RRd wr B gw l e ∧ Below w0.heap.size w0 wr

set_option maxRecDepth 100000 in
set_option maxHeartbeats 8000000 in
theorem littleReads_walk (A0 : Option Addr) (n0 c0 : Nat) (l0 : List UInt8) (A1 : Option Addr) (n1 c1 : Nat) (w : World)
    (h0 : RdB w w.heap.size A0 n0 l0) (hc0 : n0 ≤ c0) (hm0 : c0 ≤ maxLen)
    (h1 : ∀ i, i < n1 → ∃ b off x y, A1 = some ⟨b, off, none⟩ ∧ b < w.heap.size ∧ w.cell? ⟨b, off + i * 2, none⟩ = some (.int .i64 x) ∧ w.cell? ⟨b, off + i * 2 + 1, none⟩ = some (.int .i64 y) ∧ -9223372036854775808 ≤ x ∧ x ≤ 9223372036854775807 ∧ -9223372036854775808 ≤ y ∧ y ≤ 9223372036854775807) (hn1 : n1 ≤ 9223372036854775807) :
    Calls Try.prog 6 #[.slice A0 n0 c0, .slice A1 n1 c1] w fun e w' => e = .returned (.bool true) ∧ Below w.heap.size w w' := by
  have H0 := Lib.hid h0
  have H1 := Lib.hid h1
  clear h0 h1
  go_enter Try.func6, Try.ntmps6
  go_wp2_with fail
  refine (few_any A0 n0 c0 l0 60 _ H0.out hc0 hm0 (by omega)).mono ?_
  rintro e w1 ⟨A, n, c, b0, hl, rfl, hown, hb1⟩
  have hn60 : n ≤ 60 := by rw [← hown.len, hl.out, List.length_take]; omega
  go_wp2_with fail
  refine (read_any A n c b0 _ hown.rd (by omega)).mono ?_
  rintro e w2 ⟨gr, rfl, hgr, hR, hb2⟩
  have hown2 := hown.up hb2
  have hcap := hown.cap
  have hb12 := Up.trans hb1 hb2
  have hgr2 := hR.lt
  have hlen : b0.length ≤ 60 := by rw [hown.len]; exact hn60
  have hB : w1.heap.size ≤ gr := hgr
  have hs1 := hb1.size
  have hW : RRd (w2.alloc (.cells #[.slice A n c, .int .i64 (0 : Nat), .int .i64 0] 57)) w1.heap.size w2.heap.size b0 0 :=
    ⟨A, n, c, 0, b0, Blk.new w2 _ [.slice A n c, .int .i64 (0 : Nat), .int .i64 0], (hown.rd.below hb2).alloc hb2.size _, hcap.1, hcap.2, Nat.zero_le _, hb2.size, fun _ => rfl, fun h => absurd rfl h⟩
  have hR' := hR.up ((Below.refl _ w2).alloc (Nat.le_refl _) (.cells #[.slice A n c, .int .i64 (0 : Nat), .int .i64 0] 57))
  have hb3 := hb12.alloc hb12.size (.cells #[.slice A n c, .int .i64 (0 : Nat), .int .i64 0] 57)
  obtain ⟨gw, hgw⟩ : ∃ gw, gw = w2.heap.size := ⟨_, rfl⟩
  obtain ⟨B, hBe⟩ : ∃ B, B = w1.heap.size := ⟨_, rfl⟩
  rw [← hgw, ← hBe] at hW
  have HGW := Lib.hid hgw
  have HR0 := Lib.hid hR'
  have HW0 := Lib.hid hW
  have HB3 := Lib.hid hb3
  have hgw2 : gr < gw := by omega
  have hBr : B ≤ gr := by omega
  have hwB : w.heap.size ≤ B := by omega
  clear hR hR' hW hb3 hown2 hown hb2 hb12 hb1 hgr2 hB hgr hs1 hBe hgw
  go_wp2
  rw [← HGW.out]
  go_loopw [8] (fun i wr => RdsRel w B gr gw i wr) (fun i _ => 10 - (intOf i).toNat)
  case atStart => exact ⟨0, b0, 0, by omega, rfl, hlen, HR0.out, HW0.out, HB3.out⟩
  case round =>
    obtain ⟨j, l, e, hj, rfl, hll, hR, hW, hbw⟩ := hrel
    have hgwr := hW.lt
    by_cases hlt : j < n1 ∧ j < 10
    · obtain ⟨hlt1, hlt2⟩ := hlt
      obtain ⟨b, off, x, y, hA1, hbl, hcx, hcy, bx, tx, by_, ty⟩ := H1.out j hlt1
      subst hA1
      have kx : wr.cell? ⟨b, off + j * 2, none⟩ = some (.int .i64 x) := by rw [hbw.cell (by exact hbl)]; exact hcx
      have ky : wr.cell? ⟨b, off + j * 2 + 1, none⟩ = some (.int .i64 y) := by rw [hbw.cell (by exact hbl)]; exact hcy
      clear hcx hcy
      go_wp2_with fail
      refine (around_any x 7 _ bx tx (by omega) (by omega)).mono ?_
      rintro x' w' ⟨k, hk, hk7, rfl, rfl⟩
      clear kx ky
      rcases (show k = 0 ∨ k = 1 ∨ k = 2 ∨ k = 3 ∨ k = 4 ∨ k = 5 ∨ k = 6 by omega) with rfl | rfl | rfl | rfl | rfl | rfl | rfl
      · go_wp2_with fail
        refine (rU8_any gr l e _ hR).mono ?_
        rintro x w3 ⟨v, l2, e2, hv, hl2, he2, rfl, hR3, hK3⟩
        have hW3 := hW.keeps hK3 (by omega) hBr (by omega)
        go_wp2_with fail
        refine (refNumber_any B gw l e 1 _ hW3 (by omega)).mono ?_
        rintro x w4 ⟨v', l2', e2', hv', hl2', he2', rfl, hW4, hK4⟩
        have hvb : v < 256 := by
          have h1 := num_lt (nxB l e 1)
          have h2 := Nat.pow_le_pow_right (show 0 < 256 by omega) (nxB_len l e 1)
          rw [hv.out]
          omega
        have hR4 := hR3.keeps hK4 (by intro k hk hk2; have : k = gw := hk2; omega)
        obtain rfl : v = v' := hv.out.trans hv'.out.symm
        obtain rfl : l2 = l2' := hl2.out.trans hl2'.out.symm
        obtain rfl : e2 = e2' := he2.out.trans he2'.out.symm
        have hlen2 : l2.length ≤ 60 := by rw [hl2.out]; exact Nat.le_trans (nxL_le _ _ _) hll
        have hk24 : Keeps (Two gr gw) wr w4 := (hK3.mono fun k _ hk => .inl hk).trans (hK4.mono fun k _ hk => .inr hk)
        have hb4 := hk24.under (B := w.heap.size) hbw.size (by intro k hk; unfold Two; omega)
        have hb04 := hbw.trans hb4
        have HR := Lib.hid hR4
        have HW := Lib.hid hW4
        have hsz4 : gw < w4.heap.size := hW4.lt
        obtain ⟨Aw, nw, cw, Iw, bw, hbw4, _⟩ := hW4
        have d2 := hbw4.drew.abv 2 _ rfl
        clear hbw4
        go_wp2
        refine wp_region_plan NoG [(0, false), (2, false), (3, false), (4, false), (5, false), (1, true), (6, false), (7, false), (8, false), (10, false), (9, true), (11, true), (12, false), (13, false)] (by kernel_rfl) (by kernel_rfl) ?_
        repeat (refine plan_take (by simp only [List.getElem?_toArray, List.getElem?_cons_succ, List.getElem?_cons_zero]; exact rfl) ?_; go_big_quiet_step (fail); refine wpQuiet_nil ?_)
        refine plan_solo (by simp only [List.getElem?_toArray, List.getElem?_cons_succ, List.getElem?_cons_zero]; exact rfl) ?_
        go_wp2_with fail
        refine (rErrno_any gr l2 e2 _ HR.out.drew).mono ?_
        rintro x w5 ⟨rfl, rfl⟩
        go_wp2
        refine Solo.up (Below.refl _ _) ?_
        repeat (refine plan_take (by simp only [List.getElem?_toArray, List.getElem?_cons_succ, List.getElem?_cons_zero]; exact rfl) ?_; go_big_quiet_step (fail); refine wpQuiet_nil ?_)
        refine plan_solo (by simp only [List.getElem?_toArray, List.getElem?_cons_succ, List.getElem?_cons_zero]; exact rfl) ?_
        go_wp2_with fail
        refine (rEnd_any gr l2 e2 _ HR.out.drew).mono ?_
        rintro x w5 ⟨rfl, rfl⟩
        go_wp2
        refine Solo.up (Below.refl _ _) ?_
        repeat (refine plan_take (by simp only [List.getElem?_toArray, List.getElem?_cons_succ, List.getElem?_cons_zero]; exact rfl) ?_; go_big_quiet_step (fail); refine wpQuiet_nil ?_)
        refine plan_solo (by simp only [List.getElem?_toArray, List.getElem?_cons_succ, List.getElem?_cons_zero]; exact rfl) ?_
        go_wp2_with fail
        refine (refREnd_any B gw l2 e2 _ HW.out.drew).mono ?_
        rintro x w6 ⟨rfl, hb6⟩
        go_wp2
        refine Solo.up hb6 ?_
        repeat (refine plan_take (by simp only [List.getElem?_toArray, List.getElem?_cons_succ, List.getElem?_cons_zero]; exact rfl) ?_; go_big_quiet_step (fail); refine wpQuiet_nil ?_)
        refine plan_end ?_
        have hb6' := below_of_drew hb6
        go_wp2
        go_roundw
        case rel => exact ⟨j + 1, l2, e2, by omega, by go_num, hlen2, HR.out.up hb6', HW.out.up hb6', Up.trans hb04 hb6'⟩
        case measure => simp [intOf]; omega
      · go_wp2_with fail
        refine (rU16_any gr l e _ hR).mono ?_
        rintro x w3 ⟨v, l2, e2, hv, hl2, he2, rfl, hR3, hK3⟩
        have hW3 := hW.keeps hK3 (by omega) hBr (by omega)
        go_wp2_with fail
        refine (refNumber_any B gw l e 2 _ hW3 (by omega)).mono ?_
        rintro x w4 ⟨v', l2', e2', hv', hl2', he2', rfl, hW4, hK4⟩
        have hvb : v < 65536 := by
          have h1 := num_lt (nxB l e 2)
          have h2 := Nat.pow_le_pow_right (show 0 < 256 by omega) (nxB_len l e 2)
          rw [hv.out]
          omega
        have hR4 := hR3.keeps hK4 (by intro k hk hk2; have : k = gw := hk2; omega)
        obtain rfl : v = v' := hv.out.trans hv'.out.symm
        obtain rfl : l2 = l2' := hl2.out.trans hl2'.out.symm
        obtain rfl : e2 = e2' := he2.out.trans he2'.out.symm
        have hlen2 : l2.length ≤ 60 := by rw [hl2.out]; exact Nat.le_trans (nxL_le _ _ _) hll
        have hk24 : Keeps (Two gr gw) wr w4 := (hK3.mono fun k _ hk => .inl hk).trans (hK4.mono fun k _ hk => .inr hk)
        have hb4 := hk24.under (B := w.heap.size) hbw.size (by intro k hk; unfold Two; omega)
        have hb04 := hbw.trans hb4
        have HR := Lib.hid hR4
        have HW := Lib.hid hW4
        have hsz4 : gw < w4.heap.size := hW4.lt
        obtain ⟨Aw, nw, cw, Iw, bw, hbw4, _⟩ := hW4
        have d2 := hbw4.drew.abv 2 _ rfl
        clear hbw4
        go_wp2
        refine wp_region_plan NoG [(0, false), (2, false), (3, false), (4, false), (5, false), (1, true), (6, false), (7, false), (8, false), (10, false), (9, true), (11, true), (12, false), (13, false)] (by kernel_rfl) (by kernel_rfl) ?_
        repeat (refine plan_take (by simp only [List.getElem?_toArray, List.getElem?_cons_succ, List.getElem?_cons_zero]; exact rfl) ?_; go_big_quiet_step (fail); refine wpQuiet_nil ?_)
        refine plan_solo (by simp only [List.getElem?_toArray, List.getElem?_cons_succ, List.getElem?_cons_zero]; exact rfl) ?_
        go_wp2_with fail
        refine (rErrno_any gr l2 e2 _ HR.out.drew).mono ?_
        rintro x w5 ⟨rfl, rfl⟩
        go_wp2
        refine Solo.up (Below.refl _ _) ?_
        repeat (refine plan_take (by simp only [List.getElem?_toArray, List.getElem?_cons_succ, List.getElem?_cons_zero]; exact rfl) ?_; go_big_quiet_step (fail); refine wpQuiet_nil ?_)
        refine plan_solo (by simp only [List.getElem?_toArray, List.getElem?_cons_succ, List.getElem?_cons_zero]; exact rfl) ?_
        go_wp2_with fail
        refine (rEnd_any gr l2 e2 _ HR.out.drew).mono ?_
        rintro x w5 ⟨rfl, rfl⟩
        go_wp2
        refine Solo.up (Below.refl _ _) ?_
        repeat (refine plan_take (by simp only [List.getElem?_toArray, List.getElem?_cons_succ, List.getElem?_cons_zero]; exact rfl) ?_; go_big_quiet_step (fail); refine wpQuiet_nil ?_)
        refine plan_solo (by simp only [List.getElem?_toArray, List.getElem?_cons_succ, List.getElem?_cons_zero]; exact rfl) ?_
        go_wp2_with fail
        refine (refREnd_any B gw l2 e2 _ HW.out.drew).mono ?_
        rintro x w6 ⟨rfl, hb6⟩
        go_wp2
        refine Solo.up hb6 ?_
        repeat (refine plan_take (by simp only [List.getElem?_toArray, List.getElem?_cons_succ, List.getElem?_cons_zero]; exact rfl) ?_; go_big_quiet_step (fail); refine wpQuiet_nil ?_)
        refine plan_end ?_
        have hb6' := below_of_drew hb6
        go_wp2
        go_roundw
        case rel => exact ⟨j + 1, l2, e2, by omega, by go_num, hlen2, HR.out.up hb6', HW.out.up hb6', Up.trans hb04 hb6'⟩
        case measure => simp [intOf]; omega
      · go_wp2_with fail
        refine (rU32_any gr l e _ hR).mono ?_
        rintro x w3 ⟨v, l2, e2, hv, hl2, he2, rfl, hR3, hK3⟩
        have hW3 := hW.keeps hK3 (by omega) hBr (by omega)
        go_wp2_with fail
        refine (refNumber_any B gw l e 4 _ hW3 (by omega)).mono ?_
        rintro x w4 ⟨v', l2', e2', hv', hl2', he2', rfl, hW4, hK4⟩
        have hvb : v < 4294967296 := by
          have h1 := num_lt (nxB l e 4)
          have h2 := Nat.pow_le_pow_right (show 0 < 256 by omega) (nxB_len l e 4)
          rw [hv.out]
          omega
        have hR4 := hR3.keeps hK4 (by intro k hk hk2; have : k = gw := hk2; omega)
        obtain rfl : v = v' := hv.out.trans hv'.out.symm
        obtain rfl : l2 = l2' := hl2.out.trans hl2'.out.symm
        obtain rfl : e2 = e2' := he2.out.trans he2'.out.symm
        have hlen2 : l2.length ≤ 60 := by rw [hl2.out]; exact Nat.le_trans (nxL_le _ _ _) hll
        have hk24 : Keeps (Two gr gw) wr w4 := (hK3.mono fun k _ hk => .inl hk).trans (hK4.mono fun k _ hk => .inr hk)
        have hb4 := hk24.under (B := w.heap.size) hbw.size (by intro k hk; unfold Two; omega)
        have hb04 := hbw.trans hb4
        have HR := Lib.hid hR4
        have HW := Lib.hid hW4
        have hsz4 : gw < w4.heap.size := hW4.lt
        obtain ⟨Aw, nw, cw, Iw, bw, hbw4, _⟩ := hW4
        have d2 := hbw4.drew.abv 2 _ rfl
        clear hbw4
        go_wp2
        refine wp_region_plan NoG [(0, false), (2, false), (3, false), (4, false), (5, false), (1, true), (6, false), (7, false), (8, false), (10, false), (9, true), (11, true), (12, false), (13, false)] (by kernel_rfl) (by kernel_rfl) ?_
        repeat (refine plan_take (by simp only [List.getElem?_toArray, List.getElem?_cons_succ, List.getElem?_cons_zero]; exact rfl) ?_; go_big_quiet_step (fail); refine wpQuiet_nil ?_)
        refine plan_solo (by simp only [List.getElem?_toArray, List.getElem?_cons_succ, List.getElem?_cons_zero]; exact rfl) ?_
        go_wp2_with fail
        refine (rErrno_any gr l2 e2 _ HR.out.drew).mono ?_
        rintro x w5 ⟨rfl, rfl⟩
        go_wp2
        refine Solo.up (Below.refl _ _) ?_
        repeat (refine plan_take (by simp only [List.getElem?_toArray, List.getElem?_cons_succ, List.getElem?_cons_zero]; exact rfl) ?_; go_big_quiet_step (fail); refine wpQuiet_nil ?_)
        refine plan_solo (by simp only [List.getElem?_toArray, List.getElem?_cons_succ, List.getElem?_cons_zero]; exact rfl) ?_
        go_wp2_with fail
        refine (rEnd_any gr l2 e2 _ HR.out.drew).mono ?_
        rintro x w5 ⟨rfl, rfl⟩
        go_wp2
        refine Solo.up (Below.refl _ _) ?_
        repeat (refine plan_take (by simp only [List.getElem?_toArray, List.getElem?_cons_succ, List.getElem?_cons_zero]; exact rfl) ?_; go_big_quiet_step (fail); refine wpQuiet_nil ?_)
        refine plan_solo (by simp only [List.getElem?_toArray, List.getElem?_cons_succ, List.getElem?_cons_zero]; exact rfl) ?_
        go_wp2_with fail
        refine (refREnd_any B gw l2 e2 _ HW.out.drew).mono ?_
        rintro x w6 ⟨rfl, hb6⟩
        go_wp2
        refine Solo.up hb6 ?_
        repeat (refine plan_take (by simp only [List.getElem?_toArray, List.getElem?_cons_succ, List.getElem?_cons_zero]; exact rfl) ?_; go_big_quiet_step (fail); refine wpQuiet_nil ?_)
        refine plan_end ?_
        have hb6' := below_of_drew hb6
        go_wp2
        go_roundw
        case rel => exact ⟨j + 1, l2, e2, by omega, by go_num, hlen2, HR.out.up hb6', HW.out.up hb6', Up.trans hb04 hb6'⟩
        case measure => simp [intOf]; omega
      · go_wp2_with fail
        refine (rU64_any gr l e _ hR).mono ?_
        rintro x w3 ⟨v, l2, e2, hv, hl2, he2, rfl, hR3, hK3⟩
        have hW3 := hW.keeps hK3 (by omega) hBr (by omega)
        go_wp2_with fail
        refine (refNumber_any B gw l e 8 _ hW3 (by omega)).mono ?_
        rintro x w4 ⟨v', l2', e2', hv', hl2', he2', rfl, hW4, hK4⟩
        have hvb : v < 18446744073709551616 := by
          have h1 := num_lt (nxB l e 8)
          have h2 := Nat.pow_le_pow_right (show 0 < 256 by omega) (nxB_len l e 8)
          rw [hv.out]
          omega
        have hR4 := hR3.keeps hK4 (by intro k hk hk2; have : k = gw := hk2; omega)
        obtain rfl : v = v' := hv.out.trans hv'.out.symm
        obtain rfl : l2 = l2' := hl2.out.trans hl2'.out.symm
        obtain rfl : e2 = e2' := he2.out.trans he2'.out.symm
        have hlen2 : l2.length ≤ 60 := by rw [hl2.out]; exact Nat.le_trans (nxL_le _ _ _) hll
        have hk24 : Keeps (Two gr gw) wr w4 := (hK3.mono fun k _ hk => .inl hk).trans (hK4.mono fun k _ hk => .inr hk)
        have hb4 := hk24.under (B := w.heap.size) hbw.size (by intro k hk; unfold Two; omega)
        have hb04 := hbw.trans hb4
        have HR := Lib.hid hR4
        have HW := Lib.hid hW4
        have hsz4 : gw < w4.heap.size := hW4.lt
        obtain ⟨Aw, nw, cw, Iw, bw, hbw4, _⟩ := hW4
        have d2 := hbw4.drew.abv 2 _ rfl
        clear hbw4
        go_wp2
        refine wp_region_plan NoG [(0, false), (2, false), (3, false), (4, false), (5, false), (1, true), (6, false), (7, false), (8, false), (10, false), (9, true), (11, true), (12, false), (13, false)] (by kernel_rfl) (by kernel_rfl) ?_
        repeat (refine plan_take (by simp only [List.getElem?_toArray, List.getElem?_cons_succ, List.getElem?_cons_zero]; exact rfl) ?_; go_big_quiet_step (fail); refine wpQuiet_nil ?_)
        refine plan_solo (by simp only [List.getElem?_toArray, List.getElem?_cons_succ, List.getElem?_cons_zero]; exact rfl) ?_
        go_wp2_with fail
        refine (rErrno_any gr l2 e2 _ HR.out.drew).mono ?_
        rintro x w5 ⟨rfl, rfl⟩
        go_wp2
        refine Solo.up (Below.refl _ _) ?_
        repeat (refine plan_take (by simp only [List.getElem?_toArray, List.getElem?_cons_succ, List.getElem?_cons_zero]; exact rfl) ?_; go_big_quiet_step (fail); refine wpQuiet_nil ?_)
        refine plan_solo (by simp only [List.getElem?_toArray, List.getElem?_cons_succ, List.getElem?_cons_zero]; exact rfl) ?_
        go_wp2_with fail
        refine (rEnd_any gr l2 e2 _ HR.out.drew).mono ?_
        rintro x w5 ⟨rfl, rfl⟩
        go_wp2
        refine Solo.up (Below.refl _ _) ?_
        repeat (refine plan_take (by simp only [List.getElem?_toArray, List.getElem?_cons_succ, List.getElem?_cons_zero]; exact rfl) ?_; go_big_quiet_step (fail); refine wpQuiet_nil ?_)
        refine plan_solo (by simp only [List.getElem?_toArray, List.getElem?_cons_succ, List.getElem?_cons_zero]; exact rfl) ?_
        go_wp2_with fail
        refine (refREnd_any B gw l2 e2 _ HW.out.drew).mono ?_
        rintro x w6 ⟨rfl, hb6⟩
        go_wp2
        refine Solo.up hb6 ?_
        repeat (refine plan_take (by simp only [List.getElem?_toArray, List.getElem?_cons_succ, List.getElem?_cons_zero]; exact rfl) ?_; go_big_quiet_step (fail); refine wpQuiet_nil ?_)
        refine plan_end ?_
        have hb6' := below_of_drew hb6
        go_wp2
        go_roundw
        case rel => exact ⟨j + 1, l2, e2, by omega, by go_num, hlen2, HR.out.up hb6', HW.out.up hb6', Up.trans hb04 hb6'⟩
        case measure => simp [intOf]; omega
      · go_wp2_with fail
        refine (rText_any gr l e _ hR).mono ?_
        rintro x w3 ⟨v, l2, e2, hv, hl2, he2, rfl, hR3, hK3⟩
        have hW3 := hW.keeps hK3 (by omega) hBr (by omega)
        go_wp2_with fail
        refine (refRText_any B gw l e _ hW3).mono ?_
        rintro x w4 ⟨v', l2', e2', hv', hl2', he2', rfl, hW4, hK4⟩
        have hR4 := hR3.keeps hK4 (by intro k hk hk2; have : k = gw := hk2; omega)
        obtain rfl : v = v' := hv.out.trans hv'.out.symm
        obtain rfl : l2 = l2' := hl2.out.trans hl2'.out.symm
        obtain rfl : e2 = e2' := he2.out.trans he2'.out.symm
        have hlen2 : l2.length ≤ 60 := by rw [hl2.out]; exact Nat.le_trans (txL_le _ _) hll
        have hk24 : Keeps (Two gr gw) wr w4 := (hK3.mono fun k _ hk => .inl hk).trans (hK4.mono fun k _ hk => .inr hk)
        have hb4 := hk24.under (B := w.heap.size) hbw.size (by intro k hk; unfold Two; omega)
        have hb04 := hbw.trans hb4
        have HR := Lib.hid hR4
        have HW := Lib.hid hW4
        have hsz4 : gw < w4.heap.size := hW4.lt
        obtain ⟨Aw, nw, cw, Iw, bw, hbw4, _⟩ := hW4
        have d2 := hbw4.drew.abv 2 _ rfl
        clear hbw4
        go_wp2
        refine wp_region_plan NoG [(0, false), (2, false), (3, false), (4, false), (5, false), (1, true), (6, false), (7, false), (8, false), (10, false), (9, true), (11, true), (12, false), (13, false)] (by kernel_rfl) (by kernel_rfl) ?_
        repeat (refine plan_take (by simp only [List.getElem?_toArray, List.getElem?_cons_succ, List.getElem?_cons_zero]; exact rfl) ?_; go_big_quiet_step (fail); refine wpQuiet_nil ?_)
        refine plan_solo (by simp only [List.getElem?_toArray, List.getElem?_cons_succ, List.getElem?_cons_zero]; exact rfl) ?_
        go_wp2_with fail
        refine (rErrno_any gr l2 e2 _ HR.out.drew).mono ?_
        rintro x w5 ⟨rfl, rfl⟩
        go_wp2
        refine Solo.up (Below.refl _ _) ?_
        repeat (refine plan_take (by simp only [List.getElem?_toArray, List.getElem?_cons_succ, List.getElem?_cons_zero]; exact rfl) ?_; go_big_quiet_step (fail); refine wpQuiet_nil ?_)
        refine plan_solo (by simp only [List.getElem?_toArray, List.getElem?_cons_succ, List.getElem?_cons_zero]; exact rfl) ?_
        go_wp2_with fail
        refine (rEnd_any gr l2 e2 _ HR.out.drew).mono ?_
        rintro x w5 ⟨rfl, rfl⟩
        go_wp2
        refine Solo.up (Below.refl _ _) ?_
        repeat (refine plan_take (by simp only [List.getElem?_toArray, List.getElem?_cons_succ, List.getElem?_cons_zero]; exact rfl) ?_; go_big_quiet_step (fail); refine wpQuiet_nil ?_)
        refine plan_solo (by simp only [List.getElem?_toArray, List.getElem?_cons_succ, List.getElem?_cons_zero]; exact rfl) ?_
        go_wp2_with fail
        refine (refREnd_any B gw l2 e2 _ HW.out.drew).mono ?_
        rintro x w6 ⟨rfl, hb6⟩
        go_wp2
        refine Solo.up hb6 ?_
        repeat (refine plan_take (by simp only [List.getElem?_toArray, List.getElem?_cons_succ, List.getElem?_cons_zero]; exact rfl) ?_; go_big_quiet_step (fail); refine wpQuiet_nil ?_)
        refine plan_end ?_
        have hb6' := below_of_drew hb6
        go_wp2
        go_roundw
        case rel => exact ⟨j + 1, l2, e2, by omega, by go_num, hlen2, HR.out.up hb6', HW.out.up hb6', Up.trans hb04 hb6'⟩
        case measure => simp [intOf]; omega
      · go_wp2_with fail
        refine (around_any y 31 _ by_ ty (by omega) (by omega)).mono ?_
        rintro x' w' ⟨mN, hmN, hm31, rfl, rfl⟩
        have hm1 : -9223372036854775808 ≤ (mN : Int) := by omega
        have hm2 : (mN : Int) ≤ 9223372036854775807 := by omega
        go_wp2
        refine wp_region_plan (Two gr gw) [(0, false), (1, false), (4, false), (5, false), (2, true), (3, false), (6, true), (7, false), (8, false)] (by kernel_rfl) (by kernel_rfl) ?_
        repeat (refine plan_take (by simp only [List.getElem?_toArray, List.getElem?_cons_succ, List.getElem?_cons_zero]; exact rfl) ?_; go_big_quiet_step (fail); refine wpQuiet_nil ?_)
        refine plan_solo (by simp only [List.getElem?_toArray, List.getElem?_cons_succ, List.getElem?_cons_zero]; exact rfl) ?_
        go_wp2_with fail
        refine (rData_any gr l e (mN : Int) _ hR.drew (by omega) (by omega) (by omega)).mono ?_
        rintro x w3 ⟨A3, m3, c3, l3, l2, e2, hl3, hl2, he2, rfl, hown3, hR3, hK3⟩
        have hW3 := (hW.drew).keeps hK3 (by omega) hBr (by simp; omega)
        have k3 := str_own (G := Two gr gw) hown3 (by intro k hk; unfold Two; simp at hk; omega)
        go_wp2
        refine Solo.mk (hK3.mono fun k _ hk => .inl hk) ?_
        repeat (refine plan_take (by simp only [List.getElem?_toArray, List.getElem?_cons_succ, List.getElem?_cons_zero]; exact rfl) ?_; go_big_quiet_step (fail); refine wpQuiet_nil ?_)
        refine plan_solo (by simp only [List.getElem?_toArray, List.getElem?_cons_succ, List.getElem?_cons_zero]; exact rfl) ?_
        go_wp2_with fail
        refine (refRData_any B gw l e (mN : Int) _ hW3 (by omega) (by omega)).mono ?_
        rintro x w4 ⟨A4, m4, c4, l4, l2', e2', hl4, hl2', he2', rfl, hr4, hW4, hK4⟩
        have hR4 := hR3.keeps hK4 (by intro k hk hk2; have : k = gw := hk2; omega)
        obtain rfl : l3 = l4 := hl3.out.trans hl4.out.symm
        obtain rfl : l2 = l2' := hl2.out.trans hl2'.out.symm
        obtain rfl : e2 = e2' := he2.out.trans he2'.out.symm
        have k4 := str_rdG (G := Two gr gw) (c := c4) hr4 (by have := hW4.lt; omega) (by intro k hk; unfold Two; omega)
        clear k3
        go_wp2
        refine Solo.mk (hK4.mono fun k _ hk => .inr hk) ?_
        repeat (refine plan_take (by simp only [List.getElem?_toArray, List.getElem?_cons_succ, List.getElem?_cons_zero]; exact rfl) ?_; go_big_quiet_step (fail); refine wpQuiet_nil ?_)
        refine plan_end ?_
        have hlen2 : l2.length ≤ 60 := by rw [hl2.out]; exact Nat.le_trans (dtL_le _ _ _) hll
        have hk24 : Keeps (Two gr gw) wr w4 := (Keeps.refl _ _).drew'.trans ((hK3.mono fun k _ hk => .inl hk).trans (hK4.mono fun k _ hk => .inr hk))
        have hb4 := hk24.under (B := w.heap.size) hbw.size (by intro k hk; unfold Two; omega)
        have hb04 := hbw.trans hb4
        have HR := Lib.hid hR4
        have HW := Lib.hid hW4
        have hsz4 : gw < w4.heap.size := hW4.lt
        obtain ⟨Aw, nw, cw, Iw, bw, hbw4, _⟩ := hW4
        have d2 := hbw4.drew.abv 2 _ rfl
        clear hbw4
        go_wp2
        refine wp_region_plan NoG [(0, false), (2, false), (3, false), (4, false), (5, false), (1, true), (6, false), (7, false), (8, false), (10, false), (9, true), (11, true), (12, false), (13, false)] (by kernel_rfl) (by kernel_rfl) ?_
        repeat (refine plan_take (by simp only [List.getElem?_toArray, List.getElem?_cons_succ, List.getElem?_cons_zero]; exact rfl) ?_; go_big_quiet_step (fail); refine wpQuiet_nil ?_)
        refine plan_solo (by simp only [List.getElem?_toArray, List.getElem?_cons_succ, List.getElem?_cons_zero]; exact rfl) ?_
        go_wp2_with fail
        refine (rErrno_any gr l2 e2 _ HR.out.drew).mono ?_
        rintro x w5 ⟨rfl, rfl⟩
        go_wp2
        refine Solo.up (Below.refl _ _) ?_
        repeat (refine plan_take (by simp only [List.getElem?_toArray, List.getElem?_cons_succ, List.getElem?_cons_zero]; exact rfl) ?_; go_big_quiet_step (fail); refine wpQuiet_nil ?_)
        refine plan_solo (by simp only [List.getElem?_toArray, List.getElem?_cons_succ, List.getElem?_cons_zero]; exact rfl) ?_
        go_wp2_with fail
        refine (rEnd_any gr l2 e2 _ HR.out.drew).mono ?_
        rintro x w5 ⟨rfl, rfl⟩
        go_wp2
        refine Solo.up (Below.refl _ _) ?_
        repeat (refine plan_take (by simp only [List.getElem?_toArray, List.getElem?_cons_succ, List.getElem?_cons_zero]; exact rfl) ?_; go_big_quiet_step (fail); refine wpQuiet_nil ?_)
        refine plan_solo (by simp only [List.getElem?_toArray, List.getElem?_cons_succ, List.getElem?_cons_zero]; exact rfl) ?_
        go_wp2_with fail
        refine (refREnd_any B gw l2 e2 _ HW.out.drew).mono ?_
        rintro x w6 ⟨rfl, hb6⟩
        go_wp2
        refine Solo.up hb6 ?_
        repeat (refine plan_take (by simp only [List.getElem?_toArray, List.getElem?_cons_succ, List.getElem?_cons_zero]; exact rfl) ?_; go_big_quiet_step (fail); refine wpQuiet_nil ?_)
        refine plan_end ?_
        have hb6' := below_of_drew hb6
        go_wp2
        go_roundw
        case rel => exact ⟨j + 1, l2, e2, by omega, by go_num, hlen2, HR.out.up hb6', HW.out.up hb6', Up.trans hb04 hb6'⟩
        case measure => simp [intOf]; omega
      · go_wp2
        refine wp_region_plan (Two gr gw) [(0, false), (1, false), (4, false), (5, false), (2, true), (3, false), (6, true), (7, false), (8, false)] (by kernel_rfl) (by kernel_rfl) ?_
        repeat (refine plan_take (by simp only [List.getElem?_toArray, List.getElem?_cons_succ, List.getElem?_cons_zero]; exact rfl) ?_; go_big_quiet_step (fail); refine wpQuiet_nil ?_)
        refine plan_solo (by simp only [List.getElem?_toArray, List.getElem?_cons_succ, List.getElem?_cons_zero]; exact rfl) ?_
        go_wp2_with fail
        refine (rData_any gr l e y _ hR.drew (by omega) (by omega) (by omega)).mono ?_
        rintro x w3 ⟨A3, m3, c3, l3, l2, e2, hl3, hl2, he2, rfl, hown3, hR3, hK3⟩
        have hW3 := (hW.drew).keeps hK3 (by omega) hBr (by simp; omega)
        have k3 := str_own (G := Two gr gw) hown3 (by intro k hk; unfold Two; simp at hk; omega)
        go_wp2
        refine Solo.mk (hK3.mono fun k _ hk => .inl hk) ?_
        repeat (refine plan_take (by simp only [List.getElem?_toArray, List.getElem?_cons_succ, List.getElem?_cons_zero]; exact rfl) ?_; go_big_quiet_step (fail); refine wpQuiet_nil ?_)
        refine plan_solo (by simp only [List.getElem?_toArray, List.getElem?_cons_succ, List.getElem?_cons_zero]; exact rfl) ?_
        go_wp2_with fail
        refine (refRData_any B gw l e y _ hW3 (by omega) (by omega)).mono ?_
        rintro x w4 ⟨A4, m4, c4, l4, l2', e2', hl4, hl2', he2', rfl, hr4, hW4, hK4⟩
        have hR4 := hR3.keeps hK4 (by intro k hk hk2; have : k = gw := hk2; omega)
        obtain rfl : l3 = l4 := hl3.out.trans hl4.out.symm
        obtain rfl : l2 = l2' := hl2.out.trans hl2'.out.symm
        obtain rfl : e2 = e2' := he2.out.trans he2'.out.symm
        have k4 := str_rdG (G := Two gr gw) (c := c4) hr4 (by have := hW4.lt; omega) (by intro k hk; unfold Two; omega)
        clear k3
        go_wp2
        refine Solo.mk (hK4.mono fun k _ hk => .inr hk) ?_
        repeat (refine plan_take (by simp only [List.getElem?_toArray, List.getElem?_cons_succ, List.getElem?_cons_zero]; exact rfl) ?_; go_big_quiet_step (fail); refine wpQuiet_nil ?_)
        refine plan_end ?_
        have hlen2 : l2.length ≤ 60 := by rw [hl2.out]; exact Nat.le_trans (dtL_le _ _ _) hll
        have hk24 : Keeps (Two gr gw) wr w4 := (Keeps.refl _ _).drew'.trans ((hK3.mono fun k _ hk => .inl hk).trans (hK4.mono fun k _ hk => .inr hk))
        have hb4 := hk24.under (B := w.heap.size) hbw.size (by intro k hk; unfold Two; omega)
        have hb04 := hbw.trans hb4
        have HR := Lib.hid hR4
        have HW := Lib.hid hW4
        have hsz4 : gw < w4.heap.size := hW4.lt
        obtain ⟨Aw, nw, cw, Iw, bw, hbw4, _⟩ := hW4
        have d2 := hbw4.drew.abv 2 _ rfl
        clear hbw4
        go_wp2
        refine wp_region_plan NoG [(0, false), (2, false), (3, false), (4, false), (5, false), (1, true), (6, false), (7, false), (8, false), (10, false), (9, true), (11, true), (12, false), (13, false)] (by kernel_rfl) (by kernel_rfl) ?_
        repeat (refine plan_take (by simp only [List.getElem?_toArray, List.getElem?_cons_succ, List.getElem?_cons_zero]; exact rfl) ?_; go_big_quiet_step (fail); refine wpQuiet_nil ?_)
        refine plan_solo (by simp only [List.getElem?_toArray, List.getElem?_cons_succ, List.getElem?_cons_zero]; exact rfl) ?_
        go_wp2_with fail
        refine (rErrno_any gr l2 e2 _ HR.out.drew).mono ?_
        rintro x w5 ⟨rfl, rfl⟩
        go_wp2
        refine Solo.up (Below.refl _ _) ?_
        repeat (refine plan_take (by simp only [List.getElem?_toArray, List.getElem?_cons_succ, List.getElem?_cons_zero]; exact rfl) ?_; go_big_quiet_step (fail); refine wpQuiet_nil ?_)
        refine plan_solo (by simp only [List.getElem?_toArray, List.getElem?_cons_succ, List.getElem?_cons_zero]; exact rfl) ?_
        go_wp2_with fail
        refine (rEnd_any gr l2 e2 _ HR.out.drew).mono ?_
        rintro x w5 ⟨rfl, rfl⟩
        go_wp2
        refine Solo.up (Below.refl _ _) ?_
        repeat (refine plan_take (by simp only [List.getElem?_toArray, List.getElem?_cons_succ, List.getElem?_cons_zero]; exact rfl) ?_; go_big_quiet_step (fail); refine wpQuiet_nil ?_)
        refine plan_solo (by simp only [List.getElem?_toArray, List.getElem?_cons_succ, List.getElem?_cons_zero]; exact rfl) ?_
        go_wp2_with fail
        refine (refREnd_any B gw l2 e2 _ HW.out.drew).mono ?_
        rintro x w6 ⟨rfl, hb6⟩
        go_wp2
        refine Solo.up hb6 ?_
        repeat (refine plan_take (by simp only [List.getElem?_toArray, List.getElem?_cons_succ, List.getElem?_cons_zero]; exact rfl) ?_; go_big_quiet_step (fail); refine wpQuiet_nil ?_)
        refine plan_end ?_
        have hb6' := below_of_drew hb6
        go_wp2
        go_roundw
        case rel => exact ⟨j + 1, l2, e2, by omega, by go_num, hlen2, HR.out.up hb6', HW.out.up hb6', Up.trans hb04 hb6'⟩
        case measure => simp [intOf]; omega
    · have hstop : decide ((j : Int) < n1) = false ∨ (j < n1 ∧ decide ((j : Int) < 10) = false) := by
        rcases Nat.lt_or_ge j n1 with h | h
        · right; exact ⟨h, by simp; omega⟩
        · left; simp; omega
      have hb := Lib.hid hbw
      clear hlt
      rcases hstop with h | ⟨h, h'⟩
      · have h2 : decide (j < n1) = false := by simpa using h
        go_wp2_with fail
        refine (lives_any _).mono ?_
        rintro x w5 ⟨rfl, hb5⟩
        go_wp2
        go_ret
        exact ⟨rfl, hb.out.trans (hb5.mono hb.out.size)⟩
      · have h2 : decide (j < 10) = false := by simp at h' ⊢; omega
        go_wp2_with fail
        refine (lives_any _).mono ?_
        rintro x w5 ⟨rfl, hb5⟩
        go_wp2
        go_ret
        exact ⟨rfl, hb.out.trans (hb5.mono hb.out.size)⟩
end Go.Proofs.Ythfepdgamhidgaa
