/-
  Layer 2: the law LittlePuts, walked.
-/
import Derived.Test.YthfepdgamhidgaaLittleC
import Derived.Test.YthfepdgamhidgaaPlan
import Derived.Test.YthfepdgamhidgaaLawB
namespace Go.Proofs.Ythfepdgamhidgaa
open Go.RowKit
set_option linter.unusedVariables false

set_option maxRecDepth 100000 in
set_option maxHeartbeats 4000000 in
theorem littlePuts_walk (A0 : Option Addr) (n0 c0 : Nat) (l0 : List UInt8) (nI : Int) (A2 : Option Addr) (n2 c2 : Nat) (l2 : List UInt8) (kI tI : Int) (w : World)
    (h0 : RdB w w.heap.size A0 n0 l0) (hc0 : n0 ≤ c0) (hm0 : c0 ≤ maxLen) (ln : 0 ≤ nI) (un : nI ≤ 18446744073709551615) (h2 : RdB w w.heap.size A2 n2 l2) (hc2 : n2 ≤ c2) (hm2 : c2 ≤ maxLen) (lk : 0 ≤ kI) (uk : kI ≤ 255) (lt : 0 ≤ tI) (ut : tI ≤ 65535) :
    Calls Try.prog 3 #[.slice A0 n0 c0, .int .u64 nI, .slice A2 n2 c2, .int .u8 kI, .int .u16 tI] w fun e w' => e = .returned (.bool true) ∧ Below w.heap.size w w' := by
  obtain ⟨x, rfl⟩ : ∃ x : Nat, nI = x := ⟨nI.toNat, by omega⟩
  obtain ⟨kind, rfl⟩ : ∃ x : Nat, kI = x := ⟨kI.toNat, by omega⟩
  obtain ⟨tag, rfl⟩ : ∃ x : Nat, tI = x := ⟨tI.toNat, by omega⟩
  have H0 := Lib.hid h0
  have H2 := Lib.hid h2
  clear h0 h2
  go_enter Try.func3, Try.ntmps3
  go_wp2_with fail
  refine (few_any A0 n0 c0 l0 8 _ H0.out hc0 hm0 (by omega)).mono ?_
  rintro e w1 ⟨A, n, c, l, hl, rfl, hown, hb1⟩
  go_wp2_with fail
  refine (few_any A2 n2 c2 l2 40 _ (H2.out.up hb1) hc2 hm2 (by omega)).mono ?_
  rintro e w2 ⟨A', n', c', s, hs, rfl, hown', hb2⟩
  have hn8 : n ≤ 8 := by rw [← hown.len, hl.out, List.length_take]; omega
  have hn40 : n' ≤ 40 := by rw [← hown'.len, hs.out, List.length_take]; omega
  have hcc := hown.cap.1
  have hrl := hown.up hb2
  have hcl := str_of (c := c) hrl.rd (Below.refl _ _)
  go_wp2_with fail
  refine (u8_any A n c l (x % 256) _ hrl.rd (by omega) (by omega) (by omega)).mono ?_
  rintro e w3 ⟨Av, nv, cv, lv, hlv, rfl, hownv, hb3⟩
  have hq3 : Below w2.heap.size w2 w3 := hb3
  go_wp2_with fail
  refine (u16_any A n c l (x % 65536) _ (hrl.rd.up hq3) (by omega) (by omega) (by omega)).mono ?_
  rintro e w4 ⟨Ax, nx, cx, lx, hlx, rfl, hownx, hb4⟩
  have hq4 : Below w2.heap.size w2 w4 := Up.trans hq3 hb4
  go_wp2_with fail
  refine (u32_any A n c l (x % 4294967296) _ (hrl.rd.up hq4) (by omega) (by omega) (by omega)).mono ?_
  rintro e w5 ⟨Ay, ny, cy, ly, hly, rfl, howny, hb5⟩
  have hq5 : Below w2.heap.size w2 w5 := Up.trans hq4 hb5
  go_wp2_with fail
  refine (u64_any A n c l (x) _ (hrl.rd.up hq5) (by omega) (by omega) (by omega)).mono ?_
  rintro e w6 ⟨Az, nz, cz, lz, hlz, rfl, hownz, hb6⟩
  have hq6 : Below w2.heap.size w2 w6 := Up.trans hq5 hb6
  have hst := str_of (c := c') (hown'.rd.up hq6) (Below.refl _ _)
  go_wp2_with fail
  refine (text_any A n c l s _ (hrl.rd.up hq6) (by omega) (by omega) (by rw [hown'.len]; omega)).mono ?_
  rintro e w7 ⟨At, nt, ct, lt, hlt, rfl, hownt, hb7⟩
  have hq7 := Up.trans hq6 hb7
  go_wp2_with fail
  refine (data_any A n c l A' n' c' s _ (hrl.rd.up hq7) (by omega) (by omega) (hown'.rd.up hq7) (by omega)).mono ?_
  rintro e w8 ⟨Ad, nd, cd, ld, hld, rfl, hownd, hb8⟩
  have hq8 := Up.trans hq7 hb8
  clear hst hcl
  obtain rfl : lv = l ++ le 1 x := by rw [hlv.out, le_mod 1 x 256 ⟨1, rfl⟩]
  obtain rfl : lx = l ++ le 2 x := by rw [hlx.out, le_mod 2 x 65536 ⟨1, rfl⟩]
  obtain rfl : ly = l ++ le 4 x := by rw [hly.out, le_mod 4 x 4294967296 ⟨1, rfl⟩]
  obtain rfl : lz = l ++ le 8 x := hlz.out
  obtain rfl : lt = l ++ (le 2 s.length ++ s) := by rw [hlt.out, List.append_assoc]
  obtain rfl : ld = l ++ (le 4 n' ++ s) := by rw [hld.out, List.append_assoc]
  have ll : l.length ≤ 8 := by rw [hown.len]; exact hn8
  have ls : s.length ≤ 40 := by rw [hown'.len]; exact hn40
  clear hlv hlx hly hlz hlt hld
  have r8 := Lib.hid (hrl.rd.up hq8)
  have s8 := Lib.hid (hown'.rd.up hq8)
  have v8 := Lib.hid (hownv.rd.up (Up.trans hb4 (Up.trans hb5 (Up.trans hb6 (Up.trans hb7 hb8)))))
  have x8 := Lib.hid (hownx.rd.up (Up.trans hb5 (Up.trans hb6 (Up.trans hb7 hb8))))
  have y8 := Lib.hid (howny.rd.up (Up.trans hb6 (Up.trans hb7 hb8)))
  have z8 := Lib.hid (hownz.rd.up (Up.trans hb7 hb8))
  have t8 := Lib.hid (hownt.rd.up hb8)
  have d8 := Lib.hid hownd.rd
  have hb08 := Lib.hid (Up.trans hb1 (Up.trans hb2 hq8))
  clear hownv hownx howny hownz hownt hownd hb1 hb2 hb3 hb4 hb5 hb6 hb7 hb8 hq3 hq4 hq5 hq6 hq7 hq8 hrl hown
  generalize hq1 : le 1 x = q1 at v8
  generalize hq2 : le 2 x = q2 at x8
  generalize hq4 : le 4 x = q4 at y8
  generalize hq8 : le 8 x = q8 at z8
  generalize hqt : le 2 s.length ++ s = qt at t8
  generalize hqd : le 4 n' ++ s = qd at d8
  have QT := Lib.hid hqt
  have QD := Lib.hid hqd
  have et : qt.length ≤ 60 := by rw [← hqt, List.length_append, le_length]; omega
  have ed : qd.length ≤ 60 := by rw [← hqd, List.length_append, le_length]; omega
  clear hqt hqd
  have Q1 := Lib.hid hq1
  have Q2 := Lib.hid hq2
  have Q4 := Lib.hid hq4
  have Q8 := Lib.hid hq8
  have e1 : q1.length ≤ 8 := by rw [← hq1, le_length]; omega
  have e2 : q2.length ≤ 8 := by rw [← hq2, le_length]; omega
  have e4 : q4.length ≤ 8 := by rw [← hq4, le_length]; omega
  have e8 : q8.length ≤ 8 := by rw [← hq8, le_length]; omega
  clear hq1 hq2 hq4 hq8
  go_wp2
  refine wp_region_plan NoG [(0, false), (1, false), (2, false), (3, false), (4, true), (5, false), (6, false), (7, false), (8, false), (9, false), (10, false), (11, false), (12, false), (13, true), (14, false), (15, false), (16, false), (17, false), (18, false), (19, false), (20, false), (21, false), (22, false), (23, true), (24, false), (25, false), (26, false), (27, false), (28, false), (29, false), (30, false), (31, false), (32, false), (33, true), (34, false), (35, false), (36, false), (37, false)] (by kernel_rfl) (by kernel_rfl) ?_
  have kv := str_abv (w := w8.drew) (c := cv) v8.out
  repeat (refine plan_take (by simp only [List.getElem?_toArray, List.getElem?_cons_succ, List.getElem?_cons_zero]; exact rfl) ?_; go_big_quiet_step (fail); refine wpQuiet_nil ?_)
  refine plan_solo (by simp only [List.getElem?_toArray, List.getElem?_cons_succ, List.getElem?_cons_zero]; exact rfl) ?_
  go_wp2_with fail
  refine (number_any x 1 _ (by omega) (by omega)).mono ?_
  rintro e w9 ⟨A9, n9, c9, l9, hl9, rfl, hown9, hb9⟩
  obtain rfl : l9 = q1 := hl9.out.trans Q1.out
  go_wp2
  refine Solo.up hb9 ?_
  clear kv
  have k9 := str_abv (w := w9) (c := c9) hown9.rd
  have kx := str_abv (w := w9) (c := cx) (x8.out.up (below_of_drew hb9))
  repeat (refine plan_take (by simp only [List.getElem?_toArray, List.getElem?_cons_succ, List.getElem?_cons_zero]; exact rfl) ?_; go_big_quiet_step (fail); refine wpQuiet_nil ?_)
  refine plan_solo (by simp only [List.getElem?_toArray, List.getElem?_cons_succ, List.getElem?_cons_zero]; exact rfl) ?_
  go_wp2_with fail
  refine (number_any x 2 _ (by omega) (by omega)).mono ?_
  rintro e w10 ⟨A10, n10, c10, l10, hl10, rfl, hown10, hb10⟩
  obtain rfl : l10 = q2 := hl10.out.trans Q2.out
  have hq10 := Up.trans hb9 hb10
  go_wp2
  refine Solo.up hb10 ?_
  clear k9 kx
  have k10 := str_abv (w := w10) (c := c10) hown10.rd
  have ky := str_abv (w := w10) (c := cy) (y8.out.up (below_of_drew hq10))
  repeat (refine plan_take (by simp only [List.getElem?_toArray, List.getElem?_cons_succ, List.getElem?_cons_zero]; exact rfl) ?_; go_big_quiet_step (fail); refine wpQuiet_nil ?_)
  refine plan_solo (by simp only [List.getElem?_toArray, List.getElem?_cons_succ, List.getElem?_cons_zero]; exact rfl) ?_
  go_wp2_with fail
  refine (number_any x 4 _ (by omega) (by omega)).mono ?_
  rintro e w11 ⟨A11, n11, c11, l11, hl11, rfl, hown11, hb11⟩
  obtain rfl : l11 = q4 := hl11.out.trans Q4.out
  have hq11 := Up.trans hq10 hb11
  go_wp2
  refine Solo.up hb11 ?_
  clear k10 ky
  have k11 := str_abv (w := w11) (c := c11) hown11.rd
  have kz := str_abv (w := w11) (c := cz) (z8.out.up (below_of_drew hq11))
  repeat (refine plan_take (by simp only [List.getElem?_toArray, List.getElem?_cons_succ, List.getElem?_cons_zero]; exact rfl) ?_; go_big_quiet_step (fail); refine wpQuiet_nil ?_)
  refine plan_solo (by simp only [List.getElem?_toArray, List.getElem?_cons_succ, List.getElem?_cons_zero]; exact rfl) ?_
  go_wp2_with fail
  refine (number_any x 8 _ (by omega) (by omega)).mono ?_
  rintro e w12 ⟨A12, n12, c12, l12, hl12, rfl, hown12, hb12⟩
  obtain rfl : l12 = q8 := hl12.out.trans Q8.out
  have hq12 := Up.trans hq11 hb12
  go_wp2
  refine Solo.up hb12 ?_
  clear k11 kz
  have k12 := str_abv (w := w12) (c := c12) hown12.rd
  repeat (refine plan_take (by simp only [List.getElem?_toArray, List.getElem?_cons_succ, List.getElem?_cons_zero]; exact rfl) ?_; go_big_quiet_step (fail); refine wpQuiet_nil ?_)
  refine plan_end ?_
  clear k12
  have h12 := below_of_drew hq12
  have r12 := Lib.hid (r8.out.up h12)
  have s12 := Lib.hid (s8.out.up h12)
  have t12 := Lib.hid (t8.out.up h12)
  have d12 := Lib.hid (d8.out.up h12)
  have hb012 := Lib.hid (Up.trans hb08.out h12)
  clear hq12 hq11 hq10 hb9 hb10 hb11 hb12 h12 x8 y8 z8 v8 r8 s8 t8 d8 hb08 Q1 Q2 Q4 Q8 hown9 hown10 hown11 hown12 hl9 hl10 hl11 hl12
  go_wp2
  refine wp_region_plan NoG [(0, false), (1, false), (2, false), (3, false), (4, false), (5, true), (6, false), (7, false), (8, false), (9, false), (10, false), (11, false), (12, false), (13, false), (14, true), (15, false), (16, false), (17, false), (18, false), (19, false), (20, false), (21, false), (22, false), (23, false), (24, false), (25, false), (26, false), (27, false), (28, false), (31, false), (32, false), (33, false), (34, false), (35, false), (29, true), (30, false), (36, true), (37, false), (38, false), (39, false), (40, false), (41, true), (42, false), (43, false)] (by kernel_rfl) (by kernel_rfl) ?_
  have kt := str_abv (w := w12.drew) (c := ct) t12.out
  have ks := str_abv (w := w12.drew) (c := c') s12.out
  repeat (refine plan_take (by simp only [List.getElem?_toArray, List.getElem?_cons_succ, List.getElem?_cons_zero]; exact rfl) ?_; go_big_quiet_step (fail); refine wpQuiet_nil ?_)
  refine plan_solo (by simp only [List.getElem?_toArray, List.getElem?_cons_succ, List.getElem?_cons_zero]; exact rfl) ?_
  go_wp2_with fail
  refine (refText_any s _ (by omega)).mono ?_
  rintro e w13 ⟨A13, n13, c13, l13, hl13, rfl, hown13, hb13⟩
  obtain rfl : l13 = qt := hl13.out.trans QT.out
  have hq13 := below_of_drew hb13
  go_wp2
  refine Solo.up hb13 ?_
  clear kt ks
  have k13 := str_abv (w := w13) (c := c13) hown13.rd
  have kd := str_abv (w := w13) (c := cd) (d12.out.up hq13)
  repeat (refine plan_take (by simp only [List.getElem?_toArray, List.getElem?_cons_succ, List.getElem?_cons_zero]; exact rfl) ?_; go_big_quiet_step (fail); refine wpQuiet_nil ?_)
  refine plan_solo (by simp only [List.getElem?_toArray, List.getElem?_cons_succ, List.getElem?_cons_zero]; exact rfl) ?_
  go_wp2_with fail
  refine (refData_any A' n' c' s _ (s12.out.up hq13) (by omega)).mono ?_
  rintro e w14 ⟨A14, n14, c14, l14, hl14, rfl, hown14, hb14⟩
  obtain rfl : l14 = qd := hl14.out.trans QD.out
  have hq14 := Up.trans hq13 hb14
  go_wp2
  refine Solo.up hb14 ?_
  clear k13 kd
  have k14 := str_abv (w := w14) (c := c14) hown14.rd
  have kl := str_abv (w := w14) (c := c) (r12.out.up hq14)
  repeat (refine plan_take (by simp only [List.getElem?_toArray, List.getElem?_cons_succ, List.getElem?_cons_zero]; exact rfl) ?_; go_big_quiet_step (fail); refine wpQuiet_nil ?_)
  refine plan_solo (by simp only [List.getElem?_toArray, List.getElem?_cons_succ, List.getElem?_cons_zero]; exact rfl) ?_
  go_wp2_with fail
  refine (pack_any kind tag A' n' c' s _ (s12.out.up hq14) (by omega) (by omega) (by omega)).mono ?_
  rintro e w15 ⟨A15, n15, c15, l15, hl15, rfl, hown15, hb15⟩
  have hq15 := Up.trans hq14 hb15
  go_wp2
  refine Solo.up hb15 ?_
  clear k14 kl
  have k15 := str_abv (w := w15) (c := c15) hown15.rd
  repeat (refine plan_take (by simp only [List.getElem?_toArray, List.getElem?_cons_succ, List.getElem?_cons_zero]; exact rfl) ?_; go_big_quiet_step (fail); refine wpQuiet_nil ?_)
  refine plan_solo (by simp only [List.getElem?_toArray, List.getElem?_cons_succ, List.getElem?_cons_zero]; exact rfl) ?_
  go_wp2_with fail
  refine (refPack_any kind tag A' n' c' s _ (s12.out.up hq15) (by omega) (by omega) (by omega)).mono ?_
  rintro e w16 ⟨A16, n16, c16, l16, hl16, rfl, hown16, hb16⟩
  obtain rfl : l15 = l16 := hl15.out.trans hl16.out.symm
  have hq16 := Up.trans hq15 hb16
  go_wp2
  refine Solo.up hb16 ?_
  clear k15
  have k16 := str_abv (w := w16) (c := c16) hown16.rd
  repeat (refine plan_take (by simp only [List.getElem?_toArray, List.getElem?_cons_succ, List.getElem?_cons_zero]; exact rfl) ?_; go_big_quiet_step (fail); refine wpQuiet_nil ?_)
  refine plan_solo (by simp only [List.getElem?_toArray, List.getElem?_cons_succ, List.getElem?_cons_zero]; exact rfl) ?_
  go_wp2_with fail
  refine (lives_any _).mono ?_
  rintro e w17 ⟨rfl, hb17⟩
  go_wp2
  refine Solo.up hb17 ?_
  clear k16
  repeat (refine plan_take (by simp only [List.getElem?_toArray, List.getElem?_cons_succ, List.getElem?_cons_zero]; exact rfl) ?_; go_big_quiet_step (fail); refine wpQuiet_nil ?_)
  refine plan_end ?_
  go_wp2
  go_ret
  exact ⟨rfl, Up.trans hb012.out (Up.trans hq16 hb17)⟩
end Go.Proofs.Ythfepdgamhidgaa
