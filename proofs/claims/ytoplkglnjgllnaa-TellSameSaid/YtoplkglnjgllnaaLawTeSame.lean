/-
  The law TellSame.
-/
import Derived.Test.YtoplkglnjgllnaaTellT
import Derived.Test.YtoplkglnjgllnaaTellN
namespace Go.Proofs.Ytoplkglnjgllnaa
open Go.RowKit
set_option linter.unusedVariables false
set_option linter.unusedSimpArgs false

/-- Three replies. -/
structure T3 (w : World) (g : Nat) (rs : List (List Value)) : Prop where
  rd : RdR w w.heap.size 18 (some ⟨g, 0, none⟩) 3 rs
  each : ∀ (i : Nat), i < 3 → ∃ x Aq nq cq Ad nd cd, rs[i]? = some (tellC x Aq nq cq Ad nd cd) ∧ TellRd w x Aq nq cq Ad nd cd
theorem T3.up {w w' : World} {g : Nat} {rs : List (List Value)} (h : T3 w g rs) (k : Below w.heap.size w w') : T3 w' g rs :=
  ⟨h.rd.up k, fun i hi => by obtain ⟨x, Aq, nq, cq, Ad, nd, cd, h1, h2⟩ := h.each i hi; exact ⟨x, Aq, nq, cq, Ad, nd, cd, h1, h2.up k⟩⟩
def SmJ (w : World) (i : Value) (wr : World) : Prop := ∃ j : Nat, j ≤ 3 ∧ i = .int .i64 j ∧ Below w.heap.size w wr
/-- The good reply's, only read. -/
theorem good_rd {w w' : World} {t x : TellV} {Aq : Option Addr} {nq cq : Nat} {Ad : Option Addr} {nd cd : Nat} (hx : x = goodT t) (hq : OwR w' w.heap.size 23 3 Aq nq cq (x.qids.map qidC)) (hd : OwB w' w.heap.size Ad nd cd x.data) : TellRd w' x Aq nq cq Ad nd cd := by
  have hl := goodT_lens t
  rw [← hx] at hl
  have h1 := hq.len
  have h2 := hd.len
  simp only [List.length_map] at h1
  exact ⟨hq.rd, hd.rd, by omega, by omega, by omega, by omega⟩

set_option maxRecDepth 100000 in
set_option maxHeartbeats 8000000 in
theorem tellSame_walk (ta : TellV) (Aa : Option Addr) (na ca : Nat) (Da : Option Addr) (da ea : Nat) (tb : TellV) (Ab : Option Addr) (nb cb : Nat) (Db : Option Addr) (db eb : Nat) (which n : Int) (s : List UInt8) (w : World)
    (hoka : TellOk w w.heap.size ta Aa na ca Da da ea) (hokb : TellOk w w.heap.size tb Ab nb cb Db db eb) (b2 : -9223372036854775808 ≤ which) (t2 : which ≤ 9223372036854775807) (b3 : -9223372036854775808 ≤ n) (t3 : n ≤ 9223372036854775807) (hs : s.length ≤ 9223372036854775807) :
    Calls Try.prog 3 #[.agg (tellC ta Aa na ca Da da ea).toArray, .agg (tellC tb Ab nb cb Db db eb).toArray, .int .i64 which, .int .i64 n, .string (st s)] w fun e w' => e = .returned (.bool true) ∧ Below w.heap.size w w' := by
  have hA0 := Blk.new w 29 (tellC ta Aa na ca Da da ea)
  have hB0 := Blk.new (w.alloc (.cells (tellC ta Aa na ca Da da ea).toArray 29)) 29 (tellC tb Ab nb cb Db db eb)
  obtain ⟨W2, hW2⟩ : ∃ x, x = (w.alloc (.cells (tellC ta Aa na ca Da da ea).toArray 29)).alloc (.cells (tellC tb Ab nb cb Db db eb).toArray 29) := ⟨_, rfl⟩
  have hA2 : Blk W2 w.heap.size 29 (tellC ta Aa na ca Da da ea) := by rw [hW2]; exact hA0.alloc _
  have hB2 : Blk W2 (w.heap.size + 1) 29 (tellC tb Ab nb cb Db db eb) := by rw [hW2]; simpa using hB0
  have hb2 : Below w.heap.size w W2 := by rw [hW2]; exact ((Below.refl _ _).alloc (Nat.le_refl _) _).alloc (by simp) _
  have up : ∀ (W : World), Below w.heap.size w W → TellOk W W.heap.size ta Aa na ca Da da ea ∧ TellOk W W.heap.size tb Ab nb cb Db db eb := fun W h => ⟨{ (hoka.up h) with qids := (hoka.qids.below h).more h.size, data := (hoka.data.below h).more h.size }, { (hokb.up h) with qids := (hokb.qids.below h).more h.size, data := (hokb.data.below h).more h.size }⟩
  have UP := Lib.hid up
  have HA := Lib.hid hA2
  have HB := Lib.hid hB2
  have HB2 := Lib.hid hb2
  have HW2 := Lib.hid hW2
  clear hA0 hB0 hA2 hB2 hb2 hW2 up hoka hokb
  go_enter Try.func3, Try.ntmps3
  go_upto_region 1 with fail
  rw [← HW2.out]
  have hA := HA.out.drew
  have hB := HB.out.drew
  refine wp_region_tq NoG (.t 5 (.t 6 (.t 7 (.q 0 (.q 2 (.q 4 (.s 1 (.s 3 (.s 8 (.s 9 (.t 10 .nil))))))))))) (by kernel_rfl) (by kernel_rfl) ?_
  repeat (refine tq_take (by simp only [List.getElem?_toArray, List.getElem?_cons_succ, List.getElem?_cons_zero]; exact rfl) ?_; go_big_quiet_step (fail); refine wpQuiet_nil ?_)
  have hca : ∀ W, Keeps NoG W2.drew W → ∀ k v, (tellC ta Aa na ca Da da ea)[k]? = some v → W.cell? ⟨w.heap.size, 0 + k, none⟩ = some v := fun W hW k v hk => by rw [Nat.zero_add]; exact (hA.up hW.below).cell k v hk
  have hcb : ∀ W, Keeps NoG W2.drew W → ∀ k v, (tellC tb Ab nb cb Db db eb)[k]? = some v → W.cell? ⟨w.heap.size + 1, 0 + k, none⟩ = some v := fun W hW k v hk => by rw [Nat.zero_add]; exact (hB.up hW.below).cell k v hk
  refine tq_valK (d := some 14) (by simp only [List.getElem?_toArray, List.getElem?_cons_succ, List.getElem?_cons_zero]; exact rfl) rfl rfl (.agg (tellC ta Aa na ca Da da ea).toArray) (fun W hW => run_load_op (.tmp 5) rfl rfl (run_loadMid (xs := tellC ta Aa na ca Da da ea) (hca W hW) (by kernel_rfl) tellT_agg)) ?_
  simp only [Act.put, List.setIfInBounds_toArray, List.set_cons_succ, List.set_cons_zero]
  refine tq_valK (d := some 16) (by simp only [List.getElem?_toArray, List.getElem?_cons_succ, List.getElem?_cons_zero]; exact rfl) rfl rfl (.agg (tellC tb Ab nb cb Db db eb).toArray) (fun W hW => run_load_op (.tmp 6) rfl rfl (run_loadMid (xs := tellC tb Ab nb cb Db db eb) (hcb W hW) (by kernel_rfl) tellT_agg)) ?_
  simp only [Act.put, List.setIfInBounds_toArray, List.set_cons_succ, List.set_cons_zero]
  refine tq_valK (d := some 18) (by simp only [List.getElem?_toArray, List.getElem?_cons_succ, List.getElem?_cons_zero]; exact rfl) rfl rfl (.agg (tellC ta Aa na ca Da da ea).toArray) (fun W hW => run_load_op (.tmp 5) rfl rfl (run_loadMid (xs := tellC ta Aa na ca Da da ea) (hca W hW) (by kernel_rfl) tellT_agg)) ?_
  simp only [Act.put, List.setIfInBounds_toArray, List.set_cons_succ, List.set_cons_zero]
  clear hca hcb hA hB HA HB
  refine tq_solo (by simp only [List.getElem?_toArray, List.getElem?_cons_succ, List.getElem?_cons_zero]; exact rfl) ?_
  go_wp2_with fail
  refine (goodT_ok ta Aa na ca Da da ea _ (UP.out _ HB2.out.drew).1).mono ?_
  rintro e W3 ⟨x0, Xa, ma, pa, Ya, qa, ra, hx0, rfl, hq0, hd0, hb3⟩
  have h0 := good_rd hx0.out hq0 hd0
  have HB3 := Lib.hid (HB2.out.drew.trans (hb3.mono HB2.out.size))
  have H0 := Lib.hid h0
  clear hq0 hd0 h0 hx0
  go_wp2
  refine Solo.up hb3 ?_
  clear hb3
  refine tq_solo (by simp only [List.getElem?_toArray, List.getElem?_cons_succ, List.getElem?_cons_zero]; exact rfl) ?_
  go_wp2_with fail
  refine (goodT_ok tb Ab nb cb Db db eb _ (UP.out _ HB3.out).2).mono ?_
  rintro e W4 ⟨x1, Xb, mb, pb, Yb, qb, rb, hx1, rfl, hq1, hd1, hb4⟩
  have h1 := good_rd hx1.out hq1 hd1
  have HB4 := Lib.hid (HB3.out.trans (hb4.mono HB3.out.size))
  have H0 := Lib.hid (H0.out.up hb4)
  have H1 := Lib.hid h1
  clear hq1 hd1 h1 hx1
  go_wp2
  refine Solo.up hb4 ?_
  clear hb4
  refine tq_solo (by simp only [List.getElem?_toArray, List.getElem?_cons_succ, List.getElem?_cons_zero]; exact rfl) ?_
  go_wp2_with fail
  refine (odd_ok ta Aa na ca Da da ea which n s _ (UP.out _ HB4.out).1 ⟨b2, t2⟩ hs).mono ?_
  rintro e W5 ⟨x2, Xc, mc, pc, Yc, qc, rc, rfl, h2, hb5⟩
  have HB5 := Lib.hid (HB4.out.trans (hb5.mono HB4.out.size))
  have H0 := Lib.hid (H0.out.up hb5)
  have H1 := Lib.hid (H1.out.up hb5)
  have H2 := Lib.hid h2
  clear h2
  go_wp2
  refine Solo.up hb5 ?_
  clear hb5
  refine tq_solo (by simp only [List.getElem?_toArray, List.getElem?_cons_succ, List.getElem?_cons_zero]; exact rfl) ?_
  go_wp2_with (refine wpList_buildRows3 tellsElem rfl (.tmp 15) (.tmp 17) (.tmp 22) rfl (tellC x0 Xa ma pa Ya qa ra) (tellC x1 Xb mb pb Yb qb rb) (tellC x2 Xc mc pc Yc qc rc) rfl rfl rfl rfl rfl rfl (by omega) ?_; intro g W6 hrd6 hb6; simp only [Act.put, List.setIfInBounds_toArray, List.set_cons_succ, List.set_cons_zero])
  have ht6 : T3 W6 g [tellC x0 Xa ma pa Ya qa ra, tellC x1 Xb mb pb Yb qb rb, tellC x2 Xc mc pc Yc qc rc] := by
    refine ⟨hrd6, fun i hi => ?_⟩
    rcases (by omega : i = 0 ∨ i = 1 ∨ i = 2) with rfl | rfl | rfl
    · exact ⟨x0, Xa, ma, pa, Ya, qa, ra, rfl, H0.out.up hb6⟩
    · exact ⟨x1, Xb, mb, pb, Yb, qb, rb, rfl, H1.out.up hb6⟩
    · exact ⟨x2, Xc, mc, pc, Yc, qc, rc, rfl, H2.out.up hb6⟩
  have HB6 := Lib.hid (HB5.out.trans (hb6.mono HB5.out.size))
  generalize [tellC x0 Xa ma pa Ya qa ra, tellC x1 Xb mb pb Yb qb rb, tellC x2 Xc mc pc Yc qc rc] = rs at ht6
  have HT := Lib.hid ht6
  refine Solo.up hb6 ?_
  clear hrd6 ht6 H0 H1 H2 hb6
  repeat (refine tq_take (by simp only [List.getElem?_toArray, List.getElem?_cons_succ, List.getElem?_cons_zero]; exact rfl) ?_; go_big_quiet_step (fail); refine wpQuiet_nil ?_)
  refine tq_end ?_
  go_wp2
  go_loopw [12] (fun i wr => SmJ W6 i wr) (fun i _ => 3 - (intOf i).toNat)
  case atStart => exact ⟨0, by omega, rfl, Below.refl _ _⟩
  case round =>
    obtain ⟨j, hj, rfl, hbr⟩ := hrel
    have HBR := Lib.hid hbr
    clear hbr
    by_cases hlt : j < 3
    · have j1 : (j : Int) < 3 := by omega
      have j0 : (0 : Int) ≤ j := by omega
      go_wp2
      go_loopw [13] (fun i wi => SmJ wr i wi) (fun i _ => 3 - (intOf i).toNat)
      case atStart => exact ⟨0, by omega, rfl, Below.refl _ _⟩
      case round =>
        obtain ⟨k, hk, rfl, hbi⟩ := hrel
        have HBI := Lib.hid (Up.trans HBR.out hbi)
        have HBJ := Lib.hid hbi
        clear hbi
        by_cases hlk : k < 3
        · have k1 : (k : Int) < 3 := by omega
          have k0 : (0 : Int) ≤ k := by omega
          have ht := HT.out.up HBI.out.drew
          obtain ⟨x, Aq, nq, cq, Ad, nd, cd, hx, hxr⟩ := ht.each j hlt
          obtain ⟨y, Bq, mq, dq, Bd, md, dd, hy, hyr⟩ := ht.each k hlk
          obtain ⟨bb, oo, hAA, hlt1, hcc⟩ := ht.rd.2.2 (by omega)
          injection hAA with hAA
          injection hAA with h1 h2
          subst h1 h2
          have hcx : ∀ W, Keeps NoG wr.drew W → ∀ i v, (tellC x Aq nq cq Ad nd cd)[i]? = some v → W.cell? ⟨g, j * 18 + i, none⟩ = some v := fun W hW i v hv => (hW.below.cell (p := ⟨g, j * 18 + i, none⟩) hlt1).trans (by have := hcc j i _ v hx hv; rwa [Nat.zero_add] at this)
          have hcy : ∀ W, Keeps NoG wr.drew W → ∀ i v, (tellC y Bq mq dq Bd md dd)[i]? = some v → W.cell? ⟨g, k * 18 + i, none⟩ = some v := fun W hW i v hv => (hW.below.cell (p := ⟨g, k * 18 + i, none⟩) hlt1).trans (by have := hcc k i _ v hy hv; rwa [Nat.zero_add] at this)
          have HX := Lib.hid hxr
          have HY := Lib.hid hyr
          clear ht hcc hx hy hxr hyr hlt1
          go_wp2
          refine wp_region_tq NoG (.t 0 (.t 1 (.t 2 (.t 4 (.t 5 (.t 6 (.t 9 (.t 10 (.t 11 (.t 13 (.t 14 (.t 15 (.q 3 (.q 7 (.q 12 (.q 16 (.s 8 (.s 17 (.t 18 .nil))))))))))))))))))) (by kernel_rfl) (by kernel_rfl) ?_
          repeat (refine tq_take (by simp only [List.getElem?_toArray, List.getElem?_cons_succ, List.getElem?_cons_zero]; exact rfl) ?_; go_big_quiet_step (fail); refine wpQuiet_nil ?_)
          refine tq_valK (d := some 35) (by simp only [List.getElem?_toArray, List.getElem?_cons_succ, List.getElem?_cons_zero]; exact rfl) rfl rfl (.agg (tellC x Aq nq cq Ad nd cd).toArray) (fun W hW => run_load_op (.tmp 34) rfl rfl (run_loadMid (xs := tellC x Aq nq cq Ad nd cd) (hcx W hW) (by kernel_rfl) tellT_agg)) ?_
          simp only [Act.put, List.setIfInBounds_toArray, List.set_cons_succ, List.set_cons_zero]
          refine tq_valK (d := some 39) (by simp only [List.getElem?_toArray, List.getElem?_cons_succ, List.getElem?_cons_zero]; exact rfl) rfl rfl (.agg (tellC y Bq mq dq Bd md dd).toArray) (fun W hW => run_load_op (.tmp 38) rfl rfl (run_loadMid (xs := tellC y Bq mq dq Bd md dd) (hcy W hW) (by kernel_rfl) tellT_agg)) ?_
          simp only [Act.put, List.setIfInBounds_toArray, List.set_cons_succ, List.set_cons_zero]
          refine tq_valK (d := some 44) (by simp only [List.getElem?_toArray, List.getElem?_cons_succ, List.getElem?_cons_zero]; exact rfl) rfl rfl (.agg (tellC x Aq nq cq Ad nd cd).toArray) (fun W hW => run_load_op (.tmp 43) rfl rfl (run_loadMid (xs := tellC x Aq nq cq Ad nd cd) (hcx W hW) (by kernel_rfl) tellT_agg)) ?_
          simp only [Act.put, List.setIfInBounds_toArray, List.set_cons_succ, List.set_cons_zero]
          refine tq_valK (d := some 48) (by simp only [List.getElem?_toArray, List.getElem?_cons_succ, List.getElem?_cons_zero]; exact rfl) rfl rfl (.agg (tellC y Bq mq dq Bd md dd).toArray) (fun W hW => run_load_op (.tmp 47) rfl rfl (run_loadMid (xs := tellC y Bq mq dq Bd md dd) (hcy W hW) (by kernel_rfl) tellT_agg)) ?_
          simp only [Act.put, List.setIfInBounds_toArray, List.set_cons_succ, List.set_cons_zero]
          clear hcx hcy
          refine tq_solo (by simp only [List.getElem?_toArray, List.getElem?_cons_succ, List.getElem?_cons_zero]; exact rfl) ?_
          go_wp2_with fail
          refine (tellSame_any x y Aq nq cq Ad nd cd Bq mq dq Bd md dd _ HX.out HY.out).mono ?_
          rintro e W7 ⟨rfl, hb7⟩
          obtain ⟨z, hz⟩ : ∃ z, z = sameT x y := ⟨_, rfl⟩
          have HZ := Lib.hid hz
          rw [← hz]
          clear hz
          have HX7 := Lib.hid (HX.out.up hb7)
          have HY7 := Lib.hid (HY.out.up hb7)
          have HB7 := Lib.hid (Up.trans HBJ.out.drew hb7)
          go_wp2
          refine Solo.up hb7 ?_
          clear hb7
          refine tq_solo (by simp only [List.getElem?_toArray, List.getElem?_cons_succ, List.getElem?_cons_zero]; exact rfl) ?_
          go_wp2_with fail
          refine (refSame_any x y Aq nq cq Ad nd cd Bq mq dq Bd md dd _ HX7.out HY7.out).mono ?_
          rintro e W8 ⟨rfl, hb8⟩
          rw [← HZ.out]
          have HB8 := Lib.hid (Up.trans HB7.out hb8)
          go_wp2
          refine Solo.up hb8 ?_
          clear hb8
          repeat (refine tq_take (by simp only [List.getElem?_toArray, List.getElem?_cons_succ, List.getElem?_cons_zero]; exact rfl) ?_; go_big_quiet_step (fail); refine wpQuiet_nil ?_)
          refine tq_end ?_
          go_wp2
          go_roundw
          case rel => exact ⟨k + 1, by omega, by go_num, HB8.out⟩
          case measure => simp [intOf]; omega
        · obtain rfl : k = 3 := by omega
          go_wp2
          go_roundw
          case rel => exact ⟨j + 1, by omega, by go_num, HBI.out⟩
          case measure => simp [intOf]; omega
    · obtain rfl : j = 3 := by omega
      go_wp2_with fail
      refine (lives18_any _).mono ?_
      rintro e W9 ⟨rfl, hb9⟩
      have HB9 := Lib.hid (HB6.out.trans ((Up.trans HBR.out hb9).mono HB6.out.size))
      clear hb9
      go_wp2
      go_ret
      exact ⟨rfl, HB9.out⟩
end Go.Proofs.Ytoplkglnjgllnaa
