/-
  Layer 19: the law StatModes, walked.
-/
import Derived.Test.YtanafeeekofejaaStatB
namespace Go.Proofs.Ytanafeeekofejaa
open Go.RowKit
set_option linter.unusedVariables false

theorem cell2I (w : World) (a b : Int) (t : TypeId) (P : Int → Prop) (ha : P a) (hb : P b) :
    ∀ j, j < 2 → ∃ o, P o ∧ (w.alloc (.cells #[.int .i64 a, .int .i64 b] t)).cell? ⟨w.heap.size, j, none⟩ = some (.int .i64 o) := by
  intro j hj
  have h : (w.alloc (.cells #[.int .i64 a, .int .i64 b] t)).heap[w.heap.size]? = some (.cells #[.int .i64 a, .int .i64 b] t) := heap_alloc_new w _
  simp only [World.cell?, h]
  match j, hj with
  | 0, _ => exact ⟨a, ha, rfl⟩
  | 1, _ => exact ⟨b, hb, rfl⟩
theorem Blk.abv {w : World} {g : Nat} {t : TypeId} {cs : List Value} (h : Blk w g t cs) (i : Nat) (v : Value) (hv : cs[i]? = some v) : ∀ p : Abv NoG w, p.val.cell? ⟨g, i, none⟩ = some v :=
  fun p => (h.up p.below).cell i v hv

set_option maxRecDepth 100000 in
set_option maxHeartbeats 4000000 in
theorem statModes_walk (m kind : Int) (w : World) (h0 : -9223372036854775808 ≤ m) (h1 : m ≤ 9223372036854775807) (k0 : -9223372036854775808 ≤ kind) (k1 : kind ≤ 9223372036854775807) :
    Calls Try.prog 4 #[.int .i64 m, .int .i64 kind] w fun e w' => e = .returned (.bool true) ∧ Below w.heap.size w w' := by
  go_enter Try.func4, Try.ntmps4
  go_wp2_with fail
  refine (around_any m 41 _ h0 h1 (by omega) (by omega)).mono ?_
  rintro e w' ⟨k, hk, hkm, rfl, rfl⟩
  go_wp2_with fail
  refine (around_any kind 2 _ k0 k1 (by omega) (by omega)).mono ?_
  rintro e w' ⟨d, hd, hdm, rfl, rfl⟩
  have hc := cell2I w m k 3 (fun o => -9223372036854775808 ≤ o ∧ o ≤ 9223372036854775807) ⟨h0, h1⟩ (by omega)
  have hb0 : Below w.heap.size w (w.alloc (.cells #[.int .i64 m, .int .i64 k] 3)) := (Below.refl _ _).alloc (Nat.le_refl _) _
  have hs0 : (w.alloc (.cells #[.int .i64 m, .int .i64 k] 3)).heap.size = w.heap.size + 1 := by simp
  go_wp2
  generalize w.alloc (.cells #[.int .i64 m, .int .i64 k] 3) = w0 at hc hb0 hs0
  have hB := Blk.new w0 34 [.int .i64 0, .int .i64 0, .int .i64 (1 + d), .int .i64 0, .int .i64 0]
  have hb1 : Below w0.heap.size w0 (w0.alloc (.cells #[.int .i64 0, .int .i64 0, .int .i64 (1 + d), .int .i64 0, .int .i64 0] 34)) := (Below.refl _ _).alloc (Nat.le_refl _) _
  have hB' : Blk (w0.alloc (.cells #[.int .i64 0, .int .i64 0, .int .i64 (1 + d), .int .i64 0, .int .i64 0] 34)) (w.heap.size + 1) 34 [.int .i64 0, .int .i64 0, .int .i64 (1 + d), .int .i64 0, .int .i64 0] := by rw [← hs0]; exact hB
  have hcc : ∀ j, j < 2 → ∃ o, (-9223372036854775808 ≤ o ∧ o ≤ 9223372036854775807) ∧ (w0.alloc (.cells #[.int .i64 0, .int .i64 0, .int .i64 (1 + d), .int .i64 0, .int .i64 0] 34)).cell? ⟨w.heap.size, j, none⟩ = some (.int .i64 o) := fun j hj => by
    obtain ⟨o, ho, hcell⟩ := hc j hj
    exact ⟨o, ho, cell_later hb1 hcell⟩
  have hb01 := Up.trans hb0 hb1
  clear hB hc hb1 hb0
  generalize w0.alloc (.cells #[.int .i64 0, .int .i64 0, .int .i64 (1 + d), .int .i64 0, .int .i64 0] 34) = w1 at hB' hcc hb01
  have HC := Lib.hid hcc
  have HB := Lib.hid hB'
  clear hcc hB' hs0
  go_loopw [7] (fun i wr => RoundRel 2 w1 i wr) (fun i _ => 2 - (intOf i).toNat)
  case atStart => exact ⟨0, by omega, rfl, Below.refl _ _⟩
  case round =>
    obtain ⟨j, hj, rfl, hbw⟩ := hrel
    by_cases hlt : j < 2
    · obtain ⟨o, ⟨ho0, ho1⟩, hcell⟩ := HC.out j hlt
      have kcr : wr.drew.cell? ⟨w.heap.size, j, none⟩ = some (.int .i64 o) := cell_later hbw.drew hcell
      have hj4 : (j : Int) < 2 := by omega
      have hBr : Blk wr.drew _ _ _ := (HB.out.up hbw).drew
      clear hcell
      go_wp2
      refine wp_region_plan NoG [(0, false), (1, false), (2, false), (3, false), (4, false), (6, false), (7, false), (8, false), (9, false), (10, false), (5, true), (11, true), (12, false), (13, false), (14, false), (15, false), (16, false), (17, false), (19, false), (20, false), (21, false), (22, false), (18, true), (23, true), (24, false), (25, false), (26, false), (27, false), (28, false), (29, false), (30, false), (32, false), (33, false), (34, false), (35, false), (31, true), (36, true), (37, false), (38, false), (39, false), (40, false), (41, false), (42, false), (43, false), (45, false), (46, false), (47, false), (48, false), (44, true), (49, true), (50, false), (51, false)] (by kernel_rfl) (by kernel_rfl) ?_
      have mr : ∀ p : Abv NoG wr.drew, p.val.cell? ⟨w.heap.size, j, none⟩ = some (.int .i64 o) := fun p => cell_later p.below kcr
      have ar0 := (hBr).abv 0 _ rfl
      have ar1 := (hBr).abv 1 _ rfl
      have ar2 := (hBr).abv 2 _ rfl
      have ar3 := (hBr).abv 3 _ rfl
      have ar4 := (hBr).abv 4 _ rfl
      have hjj : (0 : Int) ≤ j := by omega
      repeat (refine plan_take (by simp only [List.getElem?_toArray, List.getElem?_cons_succ, List.getElem?_cons_zero]; exact rfl) ?_; go_big_quiet_step (fail); refine wpQuiet_nil ?_)
      refine plan_solo (by simp only [List.getElem?_toArray, List.getElem?_cons_succ, List.getElem?_cons_zero]; exact rfl) ?_
      go_wp2_with fail
      refine (statOpens_any o 0 0 (1 + d) 0 0 _ ho0 ho1).mono ?_
      rintro e w2 ⟨rfl, hb2⟩
      generalize hE : opE o (1 + d) = E
      have HE := Lib.hid hE
      clear hE
      have kc2 := cell_later hb2 kcr
      have hB2 := hBr.up hb2
      clear mr ar0 ar1 ar2 ar3 ar4
      go_wp2
      refine Solo.up hb2 ?_
      have m2 : ∀ p : Abv NoG w2, p.val.cell? ⟨w.heap.size, j, none⟩ = some (.int .i64 o) := fun p => cell_later p.below kc2
      have a20 := (hB2).abv 0 _ rfl
      have a21 := (hB2).abv 1 _ rfl
      have a22 := (hB2).abv 2 _ rfl
      have a23 := (hB2).abv 3 _ rfl
      have a24 := (hB2).abv 4 _ rfl
      repeat (refine plan_take (by simp only [List.getElem?_toArray, List.getElem?_cons_succ, List.getElem?_cons_zero]; exact rfl) ?_; go_big_quiet_step (fail); refine wpQuiet_nil ?_)
      refine plan_solo (by simp only [List.getElem?_toArray, List.getElem?_cons_succ, List.getElem?_cons_zero]; exact rfl) ?_
      go_wp2_with fail
      refine (refOpens_any o 0 0 (1 + d) 0 0 _ ho0 ho1).mono ?_
      rintro e w3 ⟨rfl, hb3⟩
      rw [HE.out]
      have kc3 := cell_later hb3 kc2
      have hB3 := hB2.up hb3
      clear m2 a20 a21 a22 a23 a24
      go_wp2
      refine Solo.up hb3 ?_
      have m3 : ∀ p : Abv NoG w3, p.val.cell? ⟨w.heap.size, j, none⟩ = some (.int .i64 o) := fun p => cell_later p.below kc3
      have a30 := (hB3).abv 0 _ rfl
      have a31 := (hB3).abv 1 _ rfl
      have a32 := (hB3).abv 2 _ rfl
      have a33 := (hB3).abv 3 _ rfl
      have a34 := (hB3).abv 4 _ rfl
      repeat (refine plan_take (by simp only [List.getElem?_toArray, List.getElem?_cons_succ, List.getElem?_cons_zero]; exact rfl) ?_; go_big_quiet_step (fail); refine wpQuiet_nil ?_)
      refine plan_solo (by simp only [List.getElem?_toArray, List.getElem?_cons_succ, List.getElem?_cons_zero]; exact rfl) ?_
      go_wp2_with fail
      refine (reads_any o _ ho0 ho1).mono ?_
      rintro e w' ⟨rfl, rfl⟩
      generalize hsmRd : mRd o = smRd
      have HmRd := Lib.hid hsmRd
      clear hsmRd
      go_wp2
      refine Solo.up (Below.refl _ _) ?_
      repeat (refine plan_take (by simp only [List.getElem?_toArray, List.getElem?_cons_succ, List.getElem?_cons_zero]; exact rfl) ?_; go_big_quiet_step (fail); refine wpQuiet_nil ?_)
      refine plan_solo (by simp only [List.getElem?_toArray, List.getElem?_cons_succ, List.getElem?_cons_zero]; exact rfl) ?_
      go_wp2_with fail
      refine (refReads_any o _ ho0 ho1).mono ?_
      rintro e w' ⟨rfl, rfl⟩
      rw [HmRd.out]
      go_wp2
      refine Solo.up (Below.refl _ _) ?_
      repeat (refine plan_take (by simp only [List.getElem?_toArray, List.getElem?_cons_succ, List.getElem?_cons_zero]; exact rfl) ?_; go_big_quiet_step (fail); refine wpQuiet_nil ?_)
      refine plan_solo (by simp only [List.getElem?_toArray, List.getElem?_cons_succ, List.getElem?_cons_zero]; exact rfl) ?_
      go_wp2_with fail
      refine (writes_any o _ ho0 ho1).mono ?_
      rintro e w' ⟨rfl, rfl⟩
      generalize hsmWr : mWr o = smWr
      have HmWr := Lib.hid hsmWr
      clear hsmWr
      go_wp2
      refine Solo.up (Below.refl _ _) ?_
      repeat (refine plan_take (by simp only [List.getElem?_toArray, List.getElem?_cons_succ, List.getElem?_cons_zero]; exact rfl) ?_; go_big_quiet_step (fail); refine wpQuiet_nil ?_)
      refine plan_solo (by simp only [List.getElem?_toArray, List.getElem?_cons_succ, List.getElem?_cons_zero]; exact rfl) ?_
      go_wp2_with fail
      refine (refWrites_any o _ ho0 ho1).mono ?_
      rintro e w' ⟨rfl, rfl⟩
      rw [HmWr.out]
      go_wp2
      refine Solo.up (Below.refl _ _) ?_
      repeat (refine plan_take (by simp only [List.getElem?_toArray, List.getElem?_cons_succ, List.getElem?_cons_zero]; exact rfl) ?_; go_big_quiet_step (fail); refine wpQuiet_nil ?_)
      refine plan_solo (by simp only [List.getElem?_toArray, List.getElem?_cons_succ, List.getElem?_cons_zero]; exact rfl) ?_
      go_wp2_with fail
      refine (cuts_any o _ ho0 ho1).mono ?_
      rintro e w' ⟨rfl, rfl⟩
      generalize hsmCt : mCt o = smCt
      have HmCt := Lib.hid hsmCt
      clear hsmCt
      go_wp2
      refine Solo.up (Below.refl _ _) ?_
      repeat (refine plan_take (by simp only [List.getElem?_toArray, List.getElem?_cons_succ, List.getElem?_cons_zero]; exact rfl) ?_; go_big_quiet_step (fail); refine wpQuiet_nil ?_)
      refine plan_solo (by simp only [List.getElem?_toArray, List.getElem?_cons_succ, List.getElem?_cons_zero]; exact rfl) ?_
      go_wp2_with fail
      refine (refCuts_any o _ ho0 ho1).mono ?_
      rintro e w' ⟨rfl, rfl⟩
      rw [HmCt.out]
      go_wp2
      refine Solo.up (Below.refl _ _) ?_
      repeat (refine plan_take (by simp only [List.getElem?_toArray, List.getElem?_cons_succ, List.getElem?_cons_zero]; exact rfl) ?_; go_big_quiet_step (fail); refine wpQuiet_nil ?_)
      refine plan_end ?_
      have hb3' := Up.trans hbw (Up.trans (below_of_drew hb2) hb3)
      clear m3 a30 a31 a32 a33 a34
      go_wp2
      go_roundw
      case rel => exact ⟨j + 1, by omega, by go_num, hb3'⟩
      case measure => simp [intOf]; omega
    · have hj4 : ¬ (j : Int) < 2 := by omega
      go_wp2_with fail
      refine (lives_any _).mono ?_
      rintro e w2 ⟨rfl, hb2⟩
      go_wp2
      go_ret
      exact ⟨rfl, Up.trans hb01 (Up.trans hbw hb2)⟩
end Go.Proofs.Ytanafeeekofejaa
