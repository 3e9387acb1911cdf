/-
  Layer 19: the law StatOf, walked.
-/
import Derived.Test.YtanafeeekofejaaStatC
namespace Go.Proofs.Ytanafeeekofejaa
open Go.RowKit
set_option linter.unusedVariables false

theorem Blk.abv {w : World} {g : Nat} {t : TypeId} {cs : List Value} (h : Blk w g t cs) (i : Nat) (v : Value) (hv : cs[i]? = some v) : ∀ p : Abv NoG w, p.val.cell? ⟨g, i, none⟩ = some v :=
  fun p => (h.up p.below).cell i v hv
theorem statV_form (s : List UInt8) (ino gen kind : Int) (mode : Nat) (size : Int) : ∃ d M S, statV s ino gen kind mode size = .agg #[.bool d, .int .i64 gen, .int .i64 ino, .int .i64 M, .int .i64 S, .string (st s)] := ⟨_, _, _, rfl⟩

set_option maxRecDepth 100000 in
set_option maxHeartbeats 8000000 in
theorem statOf_walk (ino gen kind mode size : Int) (l : List UInt8) (w : World) (hm0 : -9223372036854775808 ≤ mode) (hm1 : mode ≤ 9223372036854775807) (hk0 : -9223372036854775808 ≤ kind) (hk1 : kind ≤ 9223372036854775807) (hl : l.length ≤ 9223372036854775807) :
    Calls Try.prog 5 #[.agg #[.int .i64 ino, .int .i64 gen, .int .i64 kind, .int .i64 mode, .int .i64 size], .string (st l)] w fun e w' => e = .returned (.bool true) ∧ Below w.heap.size w w' := by
  have g40 : Try.prog.eqGuardType Try.prog.depth 40 = false := by kernel_rfl
  have s40 : Try.prog.stoodInHeld 40 = false := by kernel_rfl
  have g43 : Try.prog.eqGuardType Try.prog.depth 43 = false := by kernel_rfl
  have s43 : Try.prog.stoodInHeld 43 = false := by kernel_rfl
  go_enter Try.func5, Try.ntmps5
  go_wp2_with fail
  refine (around_any mode 512 _ hm0 hm1 (by omega) (by omega)).mono ?_
  rintro e w' ⟨k, hk, hkm, rfl, rfl⟩
  go_wp2_with fail
  refine (short_any l 40 _ hl (by omega)).mono ?_
  rintro e w' ⟨rfl, rfl⟩
  generalize l.take 40 = s
  have hB : Blk (w.alloc (.cells #[.int .i64 ino, .int .i64 gen, .int .i64 kind, .int .i64 k, .int .i64 size] 34)).drew w.heap.size 34 [.int .i64 ino, .int .i64 gen, .int .i64 kind, .int .i64 k, .int .i64 size] := (Blk.new w 34 [.int .i64 ino, .int .i64 gen, .int .i64 kind, .int .i64 k, .int .i64 size]).drew
  have hb0 : Below w.heap.size w (w.alloc (.cells #[.int .i64 ino, .int .i64 gen, .int .i64 kind, .int .i64 k, .int .i64 size] 34)).drew := ((Below.refl _ _).alloc (Nat.le_refl _) _).drew
  go_wp2
  refine wp_region_plan NoG [(0, false), (1, false), (2, false), (3, false), (4, false), (7, false), (8, false), (9, false), (10, false), (5, true), (6, false), (11, true), (12, true), (13, false)] (by kernel_rfl) (by kernel_rfl) ?_
  generalize (w.alloc (.cells #[.int .i64 ino, .int .i64 gen, .int .i64 kind, .int .i64 k, .int .i64 size] 34)).drew = w1 at hB hb0
  have c0 := hB.abv 0 _ rfl
  have c1 := hB.abv 1 _ rfl
  have c2 := hB.abv 2 _ rfl
  have c3 := hB.abv 3 _ rfl
  have c4 := hB.abv 4 _ rfl
  repeat (refine plan_take (by simp only [List.getElem?_toArray, List.getElem?_cons_succ, List.getElem?_cons_zero]; exact rfl) ?_; go_big_quiet_step (fail); refine wpQuiet_nil ?_)
  refine plan_solo (by simp only [List.getElem?_toArray, List.getElem?_cons_succ, List.getElem?_cons_zero]; exact rfl) ?_
  go_wp2_with fail
  refine (around_any kind 2 _ hk0 hk1 (by omega) (by omega)).mono ?_
  rintro e w' ⟨d, hd, hdm, rfl, rfl⟩
  go_wp2
  refine Solo.up (Below.refl _ _) ?_
  have hwr : IntKind.i64.wrap (1 + (d : Int)) = 1 + (d : Int) := IntWalk.i64_in _ (by omega)
  repeat (refine plan_take (by simp only [List.getElem?_toArray, List.getElem?_cons_succ, List.getElem?_cons_zero]; exact rfl) ?_; go_big_quiet_step (fail); refine wpQuiet_nil ?_)
  refine plan_solo (by simp only [List.getElem?_toArray, List.getElem?_cons_succ, List.getElem?_cons_zero]; exact rfl) ?_
  go_wp2
  refine Solo.up (Below.refl _ _) ?_
  repeat (refine plan_take (by simp only [List.getElem?_toArray, List.getElem?_cons_succ, List.getElem?_cons_zero]; exact rfl) ?_; go_big_quiet_step (fail); refine wpQuiet_nil ?_)
  refine plan_solo (by simp only [List.getElem?_toArray, List.getElem?_cons_succ, List.getElem?_cons_zero]; exact rfl) ?_
  go_wp2
  refine Solo.up ((Below.refl _ _).alloc (Nat.le_refl _) _) ?_
  repeat (refine plan_take (by simp only [List.getElem?_toArray, List.getElem?_cons_succ, List.getElem?_cons_zero]; exact rfl) ?_; go_big_quiet_step (fail); refine wpQuiet_nil ?_)
  refine plan_end ?_
  clear c0 c1 c2 c3 c4 hwr
  have hb1 : Below w1.heap.size w1 (w1.alloc (.cells #[.int .i64 ino, .int .i64 gen, .int .i64 kind, .int .i64 k, .int .i64 size, .int .i64 ino, .int .i64 gen, .int .i64 (1 + d), .int .i64 k, .int .i64 size] 34)) := (Below.refl _ _).alloc (Nat.le_refl _) _
  have hA : Blk (w1.alloc (.cells #[.int .i64 ino, .int .i64 gen, .int .i64 kind, .int .i64 k, .int .i64 size, .int .i64 ino, .int .i64 gen, .int .i64 (1 + d), .int .i64 k, .int .i64 size] 34)) w1.heap.size 34 [.int .i64 ino, .int .i64 gen, .int .i64 kind, .int .i64 k, .int .i64 size, .int .i64 ino, .int .i64 gen, .int .i64 (1 + d), .int .i64 k, .int .i64 size] := Blk.new w1 _ [.int .i64 ino, .int .i64 gen, .int .i64 kind, .int .i64 k, .int .i64 size, .int .i64 ino, .int .i64 gen, .int .i64 (1 + d), .int .i64 k, .int .i64 size]
  go_wp2
  have HA := Lib.hid hA
  have hb01 := Up.trans hb0 hb1
  clear hA hb0 hb1 hB
  obtain ⟨ga, hga⟩ : ∃ ga, ga = w1.heap.size := ⟨_, rfl⟩
  rw [← hga] at HA ⊢
  have HGA := Lib.hid hga
  clear hga
  generalize w1.alloc (.cells #[.int .i64 ino, .int .i64 gen, .int .i64 kind, .int .i64 k, .int .i64 size, .int .i64 ino, .int .i64 gen, .int .i64 (1 + d), .int .i64 k, .int .i64 size] 34) = wa at HA hb01
  go_loopw [7] (fun i wr => RoundRel 2 wa i wr) (fun i _ => 2 - (intOf i).toNat)
  case atStart => exact ⟨0, by omega, rfl, Below.refl _ _⟩
  case round =>
    obtain ⟨j, hj, rfl, hbw⟩ := hrel
    rcases (show j = 0 ∨ j = 1 ∨ j = 2 by omega) with rfl | rfl | rfl
    · skip
      have hAa := (HA.out.up hbw).drew
      go_wp2
      refine wp_region_plan NoG [(0, false), (1, false), (2, false), (3, false), (5, false), (6, false), (7, false), (8, false), (4, true), (9, true), (10, false), (11, false), (12, false), (13, false), (14, false), (15, false), (16, false), (18, false), (19, false), (20, false), (21, false), (22, false), (17, true), (23, true), (24, false), (25, false)] (by kernel_rfl) (by kernel_rfl) ?_
      have a0 := (hAa).abv 0 _ rfl
      have a1 := (hAa).abv 1 _ rfl
      have a2 := (hAa).abv 2 _ rfl
      have a3 := (hAa).abv 3 _ rfl
      have a4 := (hAa).abv 4 _ rfl
      repeat (refine plan_take (by simp only [List.getElem?_toArray, List.getElem?_cons_succ, List.getElem?_cons_zero]; exact rfl) ?_; go_big_quiet_step (fail); refine wpQuiet_nil ?_)
      refine plan_solo (by simp only [List.getElem?_toArray, List.getElem?_cons_succ, List.getElem?_cons_zero]; exact rfl) ?_
      go_wp2_with fail
      refine (qid_any ino gen kind k size _).mono ?_
      rintro e w2 ⟨rfl, hb2⟩
      generalize hdd : ((kind : Int) == 1) = D
      have HD := Lib.hid hdd
      clear hdd
      have hAb := hAa.up hb2
      clear a0 a1 a2 a3 a4
      go_wp2
      refine Solo.up hb2 ?_
      have b0 := (hAb).abv 0 _ rfl
      have b1 := (hAb).abv 1 _ rfl
      have b2 := (hAb).abv 2 _ rfl
      have b3 := (hAb).abv 3 _ rfl
      have b4 := (hAb).abv 4 _ rfl
      repeat (refine plan_take (by simp only [List.getElem?_toArray, List.getElem?_cons_succ, List.getElem?_cons_zero]; exact rfl) ?_; go_big_quiet_step (fail); refine wpQuiet_nil ?_)
      refine plan_solo (by simp only [List.getElem?_toArray, List.getElem?_cons_succ, List.getElem?_cons_zero]; exact rfl) ?_
      go_wp2_with fail
      refine (refQid_any ino gen kind k size _).mono ?_
      rintro e w3 ⟨rfl, hb3⟩
      rw [HD.out]
      have hAc := hAb.up hb3
      clear b0 b1 b2 b3 b4
      go_wp2
      refine Solo.up hb3 ?_
      have c0 := (hAc).abv 0 _ rfl
      have c1 := (hAc).abv 1 _ rfl
      have c2 := (hAc).abv 2 _ rfl
      have c3 := (hAc).abv 3 _ rfl
      have c4 := (hAc).abv 4 _ rfl
      repeat (refine plan_take (by simp only [List.getElem?_toArray, List.getElem?_cons_succ, List.getElem?_cons_zero]; exact rfl) ?_; go_big_quiet_step (fail); refine wpQuiet_nil ?_)
      refine plan_solo (by simp only [List.getElem?_toArray, List.getElem?_cons_succ, List.getElem?_cons_zero]; exact rfl) ?_
      go_wp2_with fail
      refine (of_any s ino gen kind k size _ hkm).mono ?_
      rintro e w4 ⟨rfl, hb4⟩
      obtain ⟨D', M', S', hV⟩ := statV_form s ino gen kind k size
      rw [hV]
      have HV := Lib.hid hV
      clear hV
      have hAd := hAc.up hb4
      clear c0 c1 c2 c3 c4
      go_wp2
      refine Solo.up hb4 ?_
      have d0 := (hAd).abv 0 _ rfl
      have d1 := (hAd).abv 1 _ rfl
      have d2 := (hAd).abv 2 _ rfl
      have d3 := (hAd).abv 3 _ rfl
      have d4 := (hAd).abv 4 _ rfl
      repeat (refine plan_take (by simp only [List.getElem?_toArray, List.getElem?_cons_succ, List.getElem?_cons_zero]; exact rfl) ?_; go_big_quiet_step (fail); refine wpQuiet_nil ?_)
      refine plan_solo (by simp only [List.getElem?_toArray, List.getElem?_cons_succ, List.getElem?_cons_zero]; exact rfl) ?_
      go_wp2_with fail
      refine (refOf_any s ino gen kind k size _ hkm).mono ?_
      rintro e w5 ⟨rfl, hb5⟩
      rw [HV.out]
      clear d0 d1 d2 d3 d4
      go_wp2
      refine Solo.up hb5 ?_
      repeat (refine plan_take (by simp only [List.getElem?_toArray, List.getElem?_cons_succ, List.getElem?_cons_zero]; exact rfl) ?_; go_big_quiet_step (fail); refine wpQuiet_nil ?_)
      refine plan_end ?_
      have hb9 := Up.trans hbw (Up.trans (below_of_drew hb2) (Up.trans hb3 (Up.trans hb4 hb5)))
      go_wp2
      go_roundw
      case rel => exact ⟨1, by omega, by go_num, hb9⟩
      case measure => simp [intOf]
    · skip
      have hAa := (HA.out.up hbw).drew
      go_wp2
      refine wp_region_plan NoG [(0, false), (1, false), (2, false), (3, false), (5, false), (6, false), (7, false), (8, false), (4, true), (9, true), (10, false), (11, false), (12, false), (13, false), (14, false), (15, false), (16, false), (18, false), (19, false), (20, false), (21, false), (22, false), (17, true), (23, true), (24, false), (25, false)] (by kernel_rfl) (by kernel_rfl) ?_
      have a0 := (hAa).abv 5 _ rfl
      have a1 := (hAa).abv 6 _ rfl
      have a2 := (hAa).abv 7 _ rfl
      have a3 := (hAa).abv 8 _ rfl
      have a4 := (hAa).abv 9 _ rfl
      repeat (refine plan_take (by simp only [List.getElem?_toArray, List.getElem?_cons_succ, List.getElem?_cons_zero]; exact rfl) ?_; go_big_quiet_step (fail); refine wpQuiet_nil ?_)
      refine plan_solo (by simp only [List.getElem?_toArray, List.getElem?_cons_succ, List.getElem?_cons_zero]; exact rfl) ?_
      go_wp2_with fail
      refine (qid_any ino gen (1 + d) k size _).mono ?_
      rintro e w2 ⟨rfl, hb2⟩
      generalize hdd : (((1 + d) : Int) == 1) = D
      have HD := Lib.hid hdd
      clear hdd
      have hAb := hAa.up hb2
      clear a0 a1 a2 a3 a4
      go_wp2
      refine Solo.up hb2 ?_
      have b0 := (hAb).abv 5 _ rfl
      have b1 := (hAb).abv 6 _ rfl
      have b2 := (hAb).abv 7 _ rfl
      have b3 := (hAb).abv 8 _ rfl
      have b4 := (hAb).abv 9 _ rfl
      repeat (refine plan_take (by simp only [List.getElem?_toArray, List.getElem?_cons_succ, List.getElem?_cons_zero]; exact rfl) ?_; go_big_quiet_step (fail); refine wpQuiet_nil ?_)
      refine plan_solo (by simp only [List.getElem?_toArray, List.getElem?_cons_succ, List.getElem?_cons_zero]; exact rfl) ?_
      go_wp2_with fail
      refine (refQid_any ino gen (1 + d) k size _).mono ?_
      rintro e w3 ⟨rfl, hb3⟩
      rw [HD.out]
      have hAc := hAb.up hb3
      clear b0 b1 b2 b3 b4
      go_wp2
      refine Solo.up hb3 ?_
      have c0 := (hAc).abv 5 _ rfl
      have c1 := (hAc).abv 6 _ rfl
      have c2 := (hAc).abv 7 _ rfl
      have c3 := (hAc).abv 8 _ rfl
      have c4 := (hAc).abv 9 _ rfl
      repeat (refine plan_take (by simp only [List.getElem?_toArray, List.getElem?_cons_succ, List.getElem?_cons_zero]; exact rfl) ?_; go_big_quiet_step (fail); refine wpQuiet_nil ?_)
      refine plan_solo (by simp only [List.getElem?_toArray, List.getElem?_cons_succ, List.getElem?_cons_zero]; exact rfl) ?_
      go_wp2_with fail
      refine (of_any s ino gen (1 + d) k size _ hkm).mono ?_
      rintro e w4 ⟨rfl, hb4⟩
      obtain ⟨D', M', S', hV⟩ := statV_form s ino gen (1 + d) k size
      rw [hV]
      have HV := Lib.hid hV
      clear hV
      have hAd := hAc.up hb4
      clear c0 c1 c2 c3 c4
      go_wp2
      refine Solo.up hb4 ?_
      have d0 := (hAd).abv 5 _ rfl
      have d1 := (hAd).abv 6 _ rfl
      have d2 := (hAd).abv 7 _ rfl
      have d3 := (hAd).abv 8 _ rfl
      have d4 := (hAd).abv 9 _ rfl
      repeat (refine plan_take (by simp only [List.getElem?_toArray, List.getElem?_cons_succ, List.getElem?_cons_zero]; exact rfl) ?_; go_big_quiet_step (fail); refine wpQuiet_nil ?_)
      refine plan_solo (by simp only [List.getElem?_toArray, List.getElem?_cons_succ, List.getElem?_cons_zero]; exact rfl) ?_
      go_wp2_with fail
      refine (refOf_any s ino gen (1 + d) k size _ hkm).mono ?_
      rintro e w5 ⟨rfl, hb5⟩
      rw [HV.out]
      clear d0 d1 d2 d3 d4
      go_wp2
      refine Solo.up hb5 ?_
      repeat (refine plan_take (by simp only [List.getElem?_toArray, List.getElem?_cons_succ, List.getElem?_cons_zero]; exact rfl) ?_; go_big_quiet_step (fail); refine wpQuiet_nil ?_)
      refine plan_end ?_
      have hb9 := Up.trans hbw (Up.trans (below_of_drew hb2) (Up.trans hb3 (Up.trans hb4 hb5)))
      go_wp2
      go_roundw
      case rel => exact ⟨2, by omega, by go_num, hb9⟩
      case measure => simp [intOf]
    · go_wp2_with fail
      refine (lives_any _).mono ?_
      rintro e w2 ⟨rfl, hb2⟩
      go_wp2
      go_ret
      exact ⟨rfl, Up.trans hb01 (Up.trans hbw hb2)⟩
end Go.Proofs.Ytanafeeekofejaa
