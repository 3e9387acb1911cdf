/-
  ref18.Same: the first field that differs.
-/
import Derived.Test.YtoplkglnjgllnaaTrR0
namespace Go.Proofs.Ytoplkglnjgllnaa
open Go.RowKit
set_option linter.unusedVariables false
set_option linter.unusedSimpArgs false

set_option maxRecDepth 100000 in
set_option maxHeartbeats 8000000 in
theorem rsame_7 (kind : Int) (tag : Int) (code : Int) (msize : Int) (iounit : Int) (count : Int) (name : List UInt8) (qdir : Bool) (qver : Int) (qpath : Int) (Aq : Option Addr) (nq cq : Nat) (Ad : Option Addr) (nd cd : Nat) (sdir : Bool) (sver : Int) (spath : Int) (smode : Int) (ssize : Int) (sname : List UInt8) (qdir' : Bool) (qver' : Int) (qpath' : Int) (Aq' : Option Addr) (nq' cq' : Nat) (Ad' : Option Addr) (nd' cd' : Nat) (sdir' : Bool) (sver' : Int) (spath' : Int) (smode' : Int) (ssize' : Int) (sname' : List UInt8) (w : World) (qs : List QidV) (hq1 : RdR w w.heap.size 3 Aq nq (qs.map qidC)) (hq2 : RdR w w.heap.size 3 Aq' nq' (qs.map qidC)) (hn : nq ≤ 1048576) (hd : ¬ qdir = qdir') :
    Calls Try.prog 13 #[.agg #[.int .i64 kind, .int .i64 tag, .int .i64 code, .int .i64 msize, .int .i64 iounit, .int .i64 count, .string (st name), .bool qdir, .int .i64 qver, .int .i64 qpath, .slice Aq nq cq, .slice Ad nd cd, .bool sdir, .int .i64 sver, .int .i64 spath, .int .i64 smode, .int .i64 ssize, .string (st sname)], .agg #[.int .i64 kind, .int .i64 tag, .int .i64 code, .int .i64 msize, .int .i64 iounit, .int .i64 count, .string (st name), .bool qdir', .int .i64 qver', .int .i64 qpath', .slice Aq' nq' cq', .slice Ad' nd' cd', .bool sdir', .int .i64 sver', .int .i64 spath', .int .i64 smode', .int .i64 ssize', .string (st sname')]] w fun e w' => e = .returned (.bool false) ∧ Below w.heap.size w w' := by
  obtain rfl : nq = nq' := by rw [← hq1.len, ← hq2.len]
  have hlq : qs.length = nq := by have := hq1.len; simpa using this
  have HL := Lib.hid hlq
  have gQ : Try.prog.eqGuardType Try.prog.depth 23 = false := by kernel_rfl
  have sQ : Try.prog.stoodInHeld 23 = false := by kernel_rfl
  have gS : Try.prog.eqGuardType Try.prog.depth 27 = false := by kernel_rfl
  have sS : Try.prog.stoodInHeld 27 = false := by kernel_rfl
  have hA0 := (Blk.new w 29 [.int .i64 kind, .int .i64 tag, .int .i64 code, .int .i64 msize, .int .i64 iounit, .int .i64 count, .string (st name), .bool qdir, .int .i64 qver, .int .i64 qpath, .slice Aq nq cq, .slice Ad nd cd, .bool sdir, .int .i64 sver, .int .i64 spath, .int .i64 smode, .int .i64 ssize, .string (st sname)]).alloc (.cells #[.int .i64 kind, .int .i64 tag, .int .i64 code, .int .i64 msize, .int .i64 iounit, .int .i64 count, .string (st name), .bool qdir', .int .i64 qver', .int .i64 qpath', .slice Aq' nq cq', .slice Ad' nd' cd', .bool sdir', .int .i64 sver', .int .i64 spath', .int .i64 smode', .int .i64 ssize', .string (st sname')] 29)
  have hB0 := Blk.new (w.alloc (.cells #[.int .i64 kind, .int .i64 tag, .int .i64 code, .int .i64 msize, .int .i64 iounit, .int .i64 count, .string (st name), .bool qdir, .int .i64 qver, .int .i64 qpath, .slice Aq nq cq, .slice Ad nd cd, .bool sdir, .int .i64 sver, .int .i64 spath, .int .i64 smode, .int .i64 ssize, .string (st sname)] 29)) 29 [.int .i64 kind, .int .i64 tag, .int .i64 code, .int .i64 msize, .int .i64 iounit, .int .i64 count, .string (st name), .bool qdir', .int .i64 qver', .int .i64 qpath', .slice Aq' nq cq', .slice Ad' nd' cd', .bool sdir', .int .i64 sver', .int .i64 spath', .int .i64 smode', .int .i64 ssize', .string (st sname')]
  have hb : Below w.heap.size w ((w.alloc (.cells #[.int .i64 kind, .int .i64 tag, .int .i64 code, .int .i64 msize, .int .i64 iounit, .int .i64 count, .string (st name), .bool qdir, .int .i64 qver, .int .i64 qpath, .slice Aq nq cq, .slice Ad nd cd, .bool sdir, .int .i64 sver, .int .i64 spath, .int .i64 smode, .int .i64 ssize, .string (st sname)] 29)).alloc (.cells #[.int .i64 kind, .int .i64 tag, .int .i64 code, .int .i64 msize, .int .i64 iounit, .int .i64 count, .string (st name), .bool qdir', .int .i64 qver', .int .i64 qpath', .slice Aq' nq cq', .slice Ad' nd' cd', .bool sdir', .int .i64 sver', .int .i64 spath', .int .i64 smode', .int .i64 ssize', .string (st sname')] 29)) := ((Below.refl _ _).alloc (Nat.le_refl _) _).alloc (by simp) _
  rw [show (w.alloc (.cells #[.int .i64 kind, .int .i64 tag, .int .i64 code, .int .i64 msize, .int .i64 iounit, .int .i64 count, .string (st name), .bool qdir, .int .i64 qver, .int .i64 qpath, .slice Aq nq cq, .slice Ad nd cd, .bool sdir, .int .i64 sver, .int .i64 spath, .int .i64 smode, .int .i64 ssize, .string (st sname)] 29)).heap.size = w.heap.size + 1 by simp] at hB0
  obtain ⟨W, hW⟩ : ∃ W, W = (w.alloc (.cells #[.int .i64 kind, .int .i64 tag, .int .i64 code, .int .i64 msize, .int .i64 iounit, .int .i64 count, .string (st name), .bool qdir, .int .i64 qver, .int .i64 qpath, .slice Aq nq cq, .slice Ad nd cd, .bool sdir, .int .i64 sver, .int .i64 spath, .int .i64 smode, .int .i64 ssize, .string (st sname)] 29)).alloc (.cells #[.int .i64 kind, .int .i64 tag, .int .i64 code, .int .i64 msize, .int .i64 iounit, .int .i64 count, .string (st name), .bool qdir', .int .i64 qver', .int .i64 qpath', .slice Aq' nq cq', .slice Ad' nd' cd', .bool sdir', .int .i64 sver', .int .i64 spath', .int .i64 smode', .int .i64 ssize', .string (st sname')] 29) := ⟨_, rfl⟩
  have hW' : W = (w.alloc (.cells [.int .i64 kind, .int .i64 tag, .int .i64 code, .int .i64 msize, .int .i64 iounit, .int .i64 count, .string (st name), .bool qdir, .int .i64 qver, .int .i64 qpath, .slice Aq nq cq, .slice Ad nd cd, .bool sdir, .int .i64 sver, .int .i64 spath, .int .i64 smode, .int .i64 ssize, .string (st sname)].toArray 29)).alloc (.cells #[.int .i64 kind, .int .i64 tag, .int .i64 code, .int .i64 msize, .int .i64 iounit, .int .i64 count, .string (st name), .bool qdir', .int .i64 qver', .int .i64 qpath', .slice Aq' nq cq', .slice Ad' nd' cd', .bool sdir', .int .i64 sver', .int .i64 spath', .int .i64 smode', .int .i64 ssize', .string (st sname')] 29) := hW
  have hW'' : W = (w.alloc (.cells #[.int .i64 kind, .int .i64 tag, .int .i64 code, .int .i64 msize, .int .i64 iounit, .int .i64 count, .string (st name), .bool qdir, .int .i64 qver, .int .i64 qpath, .slice Aq nq cq, .slice Ad nd cd, .bool sdir, .int .i64 sver, .int .i64 spath, .int .i64 smode, .int .i64 ssize, .string (st sname)] 29)).alloc (.cells [.int .i64 kind, .int .i64 tag, .int .i64 code, .int .i64 msize, .int .i64 iounit, .int .i64 count, .string (st name), .bool qdir', .int .i64 qver', .int .i64 qpath', .slice Aq' nq cq', .slice Ad' nd' cd', .bool sdir', .int .i64 sver', .int .i64 spath', .int .i64 smode', .int .i64 ssize', .string (st sname')].toArray 29) := hW
  rw [← hW'] at hA0
  rw [← hW''] at hB0
  rw [← hW] at hb
  have HQ1 := Lib.hid (hq1.up hb)
  have HQ2 := Lib.hid (hq2.up hb)
  have a10 := hA0.cell 10 _ rfl
  have b10 := hB0.cell 10 _ rfl
  have HA := Lib.hid hA0
  have HB := Lib.hid hB0
  have HW := Lib.hid hb
  clear hq1 hq2 hA0 hB0 hb hW' hW'' hlq
  go_enter Try.func13, Try.ntmps13
  go_upto_region 1 with fail
  rw [← hW]
  clear hW
  go_wp2
  go_loopw [5] (fun i wr => RsJ nq W i wr) (fun i _ => nq - (intOf i).toNat)
  case atStart => exact ⟨0, by omega, rfl, Below.refl _ _⟩
  case round =>
    obtain ⟨j, hj, rfl, hbw⟩ := hrel
    have hA1 := HA.out.up hbw
    have hB1 := HB.out.up hbw
    have HBW := Lib.hid hbw
    clear hbw a10 b10
    have a10 := hA1.cell 10 _ rfl
    have b10 := hB1.cell 10 _ rfl
    by_cases hlt : j < nq
    · have j0 : (0 : Int) ≤ j := by omega
      have j1 : (j : Int) < nq := by omega
      obtain ⟨b1, o1, r1, hA1', hb1, hr1, _, hc1⟩ := (HQ1.out.below HBW.out).at_ hlt
      obtain ⟨b2, o2, r2, hA2', hb2, hr2, _, hc2⟩ := (HQ2.out.below HBW.out).at_ hlt
      have hjl : j < qs.length := by rw [HL.out]; exact hlt
      obtain ⟨x, hx⟩ : ∃ x, qs[j]? = some x := ⟨_, List.getElem?_eq_getElem hjl⟩
      rw [List.getElem?_map, hx] at hr1 hr2
      obtain rfl : r1 = qidC x := (Option.some.inj hr1).symm
      obtain rfl : r2 = qidC x := (Option.some.inj hr2).symm
      obtain ⟨xd, xv, xp⟩ := x
      subst hA1'
      subst hA2'
      have d0 : ∀ p : Abv NoG wr.drew, p.val.cell? ⟨b1, o1 + j * 3, none⟩ = some (.bool xd) := cell_abv (w := wr.drew) (hc1 0 _ rfl) id
      have d1 : ∀ p : Abv NoG wr.drew, p.val.cell? ⟨b1, o1 + j * 3 + 1, none⟩ = some (.int .i64 xv) := cell_abv (w := wr.drew) (hc1 1 _ rfl) id
      have d2 : ∀ p : Abv NoG wr.drew, p.val.cell? ⟨b1, o1 + j * 3 + 2, none⟩ = some (.int .i64 xp) := cell_abv (w := wr.drew) (hc1 2 _ rfl) id
      have e0 : ∀ p : Abv NoG wr.drew, p.val.cell? ⟨b2, o2 + j * 3, none⟩ = some (.bool xd) := cell_abv (w := wr.drew) (hc2 0 _ rfl) id
      have e1 : ∀ p : Abv NoG wr.drew, p.val.cell? ⟨b2, o2 + j * 3 + 1, none⟩ = some (.int .i64 xv) := cell_abv (w := wr.drew) (hc2 1 _ rfl) id
      have e2 : ∀ p : Abv NoG wr.drew, p.val.cell? ⟨b2, o2 + j * 3 + 2, none⟩ = some (.int .i64 xp) := cell_abv (w := wr.drew) (hc2 2 _ rfl) id
      have a10' := cell_abv (G := NoG) (w := wr.drew) a10 id
      have b10' := cell_abv (G := NoG) (w := wr.drew) b10 id
      clear hc1 hc2 hr1 hr2 hx hb1 hb2 hA1 hB1
      go_wp2
      refine wp_region_plan NoG [(0, false), (1, false), (2, false), (3, false), (4, false), (5, false), (6, false), (7, false), (8, false), (9, false), (10, false)] (by kernel_rfl) (by kernel_rfl) ?_
      repeat (refine plan_take (by simp only [List.getElem?_toArray, List.getElem?_cons_succ, List.getElem?_cons_zero]; exact rfl) ?_; go_big_quiet_step (fail); refine wpQuiet_nil ?_)
      refine plan_end ?_
      go_wp2
      go_roundw
      case rel => exact ⟨j + 1, by omega, by go_num, HBW.out.drew⟩
      case measure => simp [intOf]; omega
    · obtain rfl : j = nq := by omega
      have j1 : ¬ (j : Int) < j := by omega
      have a0 := hA1.cell 0 _ rfl
      have b0 := hB1.cell 0 _ rfl
      have a1 := hA1.cell 1 _ rfl
      have b1 := hB1.cell 1 _ rfl
      have a2 := hA1.cell 2 _ rfl
      have b2 := hB1.cell 2 _ rfl
      have a3 := hA1.cell 3 _ rfl
      have b3 := hB1.cell 3 _ rfl
      have a4 := hA1.cell 4 _ rfl
      have b4 := hB1.cell 4 _ rfl
      have a5 := hA1.cell 5 _ rfl
      have b5 := hB1.cell 5 _ rfl
      have a6 := hA1.cell 6 _ rfl
      have b6 := hB1.cell 6 _ rfl
      have a7 := hA1.cell 7 _ rfl
      have b7 := hB1.cell 7 _ rfl
      have a8 := hA1.cell 8 _ rfl
      have b8 := hB1.cell 8 _ rfl
      have a9 := hA1.cell 9 _ rfl
      have b9 := hB1.cell 9 _ rfl
      have HZ := Lib.hid (Up.trans HW.out HBW.out)
      clear hA1 hB1
      go_wp2
      go_ret
      exact ⟨rfl, HZ.out⟩
set_option maxRecDepth 100000 in
set_option maxHeartbeats 8000000 in
theorem rsame_8 (kind : Int) (tag : Int) (code : Int) (msize : Int) (iounit : Int) (count : Int) (name : List UInt8) (qdir : Bool) (qver : Int) (qpath : Int) (Aq : Option Addr) (nq cq : Nat) (Ad : Option Addr) (nd cd : Nat) (sdir : Bool) (sver : Int) (spath : Int) (smode : Int) (ssize : Int) (sname : List UInt8) (qver' : Int) (qpath' : Int) (Aq' : Option Addr) (nq' cq' : Nat) (Ad' : Option Addr) (nd' cd' : Nat) (sdir' : Bool) (sver' : Int) (spath' : Int) (smode' : Int) (ssize' : Int) (sname' : List UInt8) (w : World) (qs : List QidV) (hq1 : RdR w w.heap.size 3 Aq nq (qs.map qidC)) (hq2 : RdR w w.heap.size 3 Aq' nq' (qs.map qidC)) (hn : nq ≤ 1048576) (hd : ¬ qver = qver') :
    Calls Try.prog 13 #[.agg #[.int .i64 kind, .int .i64 tag, .int .i64 code, .int .i64 msize, .int .i64 iounit, .int .i64 count, .string (st name), .bool qdir, .int .i64 qver, .int .i64 qpath, .slice Aq nq cq, .slice Ad nd cd, .bool sdir, .int .i64 sver, .int .i64 spath, .int .i64 smode, .int .i64 ssize, .string (st sname)], .agg #[.int .i64 kind, .int .i64 tag, .int .i64 code, .int .i64 msize, .int .i64 iounit, .int .i64 count, .string (st name), .bool qdir, .int .i64 qver', .int .i64 qpath', .slice Aq' nq' cq', .slice Ad' nd' cd', .bool sdir', .int .i64 sver', .int .i64 spath', .int .i64 smode', .int .i64 ssize', .string (st sname')]] w fun e w' => e = .returned (.bool false) ∧ Below w.heap.size w w' := by
  obtain rfl : nq = nq' := by rw [← hq1.len, ← hq2.len]
  have hlq : qs.length = nq := by have := hq1.len; simpa using this
  have HL := Lib.hid hlq
  have gQ : Try.prog.eqGuardType Try.prog.depth 23 = false := by kernel_rfl
  have sQ : Try.prog.stoodInHeld 23 = false := by kernel_rfl
  have gS : Try.prog.eqGuardType Try.prog.depth 27 = false := by kernel_rfl
  have sS : Try.prog.stoodInHeld 27 = false := by kernel_rfl
  have hA0 := (Blk.new w 29 [.int .i64 kind, .int .i64 tag, .int .i64 code, .int .i64 msize, .int .i64 iounit, .int .i64 count, .string (st name), .bool qdir, .int .i64 qver, .int .i64 qpath, .slice Aq nq cq, .slice Ad nd cd, .bool sdir, .int .i64 sver, .int .i64 spath, .int .i64 smode, .int .i64 ssize, .string (st sname)]).alloc (.cells #[.int .i64 kind, .int .i64 tag, .int .i64 code, .int .i64 msize, .int .i64 iounit, .int .i64 count, .string (st name), .bool qdir, .int .i64 qver', .int .i64 qpath', .slice Aq' nq cq', .slice Ad' nd' cd', .bool sdir', .int .i64 sver', .int .i64 spath', .int .i64 smode', .int .i64 ssize', .string (st sname')] 29)
  have hB0 := Blk.new (w.alloc (.cells #[.int .i64 kind, .int .i64 tag, .int .i64 code, .int .i64 msize, .int .i64 iounit, .int .i64 count, .string (st name), .bool qdir, .int .i64 qver, .int .i64 qpath, .slice Aq nq cq, .slice Ad nd cd, .bool sdir, .int .i64 sver, .int .i64 spath, .int .i64 smode, .int .i64 ssize, .string (st sname)] 29)) 29 [.int .i64 kind, .int .i64 tag, .int .i64 code, .int .i64 msize, .int .i64 iounit, .int .i64 count, .string (st name), .bool qdir, .int .i64 qver', .int .i64 qpath', .slice Aq' nq cq', .slice Ad' nd' cd', .bool sdir', .int .i64 sver', .int .i64 spath', .int .i64 smode', .int .i64 ssize', .string (st sname')]
  have hb : Below w.heap.size w ((w.alloc (.cells #[.int .i64 kind, .int .i64 tag, .int .i64 code, .int .i64 msize, .int .i64 iounit, .int .i64 count, .string (st name), .bool qdir, .int .i64 qver, .int .i64 qpath, .slice Aq nq cq, .slice Ad nd cd, .bool sdir, .int .i64 sver, .int .i64 spath, .int .i64 smode, .int .i64 ssize, .string (st sname)] 29)).alloc (.cells #[.int .i64 kind, .int .i64 tag, .int .i64 code, .int .i64 msize, .int .i64 iounit, .int .i64 count, .string (st name), .bool qdir, .int .i64 qver', .int .i64 qpath', .slice Aq' nq cq', .slice Ad' nd' cd', .bool sdir', .int .i64 sver', .int .i64 spath', .int .i64 smode', .int .i64 ssize', .string (st sname')] 29)) := ((Below.refl _ _).alloc (Nat.le_refl _) _).alloc (by simp) _
  rw [show (w.alloc (.cells #[.int .i64 kind, .int .i64 tag, .int .i64 code, .int .i64 msize, .int .i64 iounit, .int .i64 count, .string (st name), .bool qdir, .int .i64 qver, .int .i64 qpath, .slice Aq nq cq, .slice Ad nd cd, .bool sdir, .int .i64 sver, .int .i64 spath, .int .i64 smode, .int .i64 ssize, .string (st sname)] 29)).heap.size = w.heap.size + 1 by simp] at hB0
  obtain ⟨W, hW⟩ : ∃ W, W = (w.alloc (.cells #[.int .i64 kind, .int .i64 tag, .int .i64 code, .int .i64 msize, .int .i64 iounit, .int .i64 count, .string (st name), .bool qdir, .int .i64 qver, .int .i64 qpath, .slice Aq nq cq, .slice Ad nd cd, .bool sdir, .int .i64 sver, .int .i64 spath, .int .i64 smode, .int .i64 ssize, .string (st sname)] 29)).alloc (.cells #[.int .i64 kind, .int .i64 tag, .int .i64 code, .int .i64 msize, .int .i64 iounit, .int .i64 count, .string (st name), .bool qdir, .int .i64 qver', .int .i64 qpath', .slice Aq' nq cq', .slice Ad' nd' cd', .bool sdir', .int .i64 sver', .int .i64 spath', .int .i64 smode', .int .i64 ssize', .string (st sname')] 29) := ⟨_, rfl⟩
  have hW' : W = (w.alloc (.cells [.int .i64 kind, .int .i64 tag, .int .i64 code, .int .i64 msize, .int .i64 iounit, .int .i64 count, .string (st name), .bool qdir, .int .i64 qver, .int .i64 qpath, .slice Aq nq cq, .slice Ad nd cd, .bool sdir, .int .i64 sver, .int .i64 spath, .int .i64 smode, .int .i64 ssize, .string (st sname)].toArray 29)).alloc (.cells #[.int .i64 kind, .int .i64 tag, .int .i64 code, .int .i64 msize, .int .i64 iounit, .int .i64 count, .string (st name), .bool qdir, .int .i64 qver', .int .i64 qpath', .slice Aq' nq cq', .slice Ad' nd' cd', .bool sdir', .int .i64 sver', .int .i64 spath', .int .i64 smode', .int .i64 ssize', .string (st sname')] 29) := hW
  have hW'' : W = (w.alloc (.cells #[.int .i64 kind, .int .i64 tag, .int .i64 code, .int .i64 msize, .int .i64 iounit, .int .i64 count, .string (st name), .bool qdir, .int .i64 qver, .int .i64 qpath, .slice Aq nq cq, .slice Ad nd cd, .bool sdir, .int .i64 sver, .int .i64 spath, .int .i64 smode, .int .i64 ssize, .string (st sname)] 29)).alloc (.cells [.int .i64 kind, .int .i64 tag, .int .i64 code, .int .i64 msize, .int .i64 iounit, .int .i64 count, .string (st name), .bool qdir, .int .i64 qver', .int .i64 qpath', .slice Aq' nq cq', .slice Ad' nd' cd', .bool sdir', .int .i64 sver', .int .i64 spath', .int .i64 smode', .int .i64 ssize', .string (st sname')].toArray 29) := hW
  rw [← hW'] at hA0
  rw [← hW''] at hB0
  rw [← hW] at hb
  have HQ1 := Lib.hid (hq1.up hb)
  have HQ2 := Lib.hid (hq2.up hb)
  have a10 := hA0.cell 10 _ rfl
  have b10 := hB0.cell 10 _ rfl
  have HA := Lib.hid hA0
  have HB := Lib.hid hB0
  have HW := Lib.hid hb
  clear hq1 hq2 hA0 hB0 hb hW' hW'' hlq
  go_enter Try.func13, Try.ntmps13
  go_upto_region 1 with fail
  rw [← hW]
  clear hW
  go_wp2
  go_loopw [5] (fun i wr => RsJ nq W i wr) (fun i _ => nq - (intOf i).toNat)
  case atStart => exact ⟨0, by omega, rfl, Below.refl _ _⟩
  case round =>
    obtain ⟨j, hj, rfl, hbw⟩ := hrel
    have hA1 := HA.out.up hbw
    have hB1 := HB.out.up hbw
    have HBW := Lib.hid hbw
    clear hbw a10 b10
    have a10 := hA1.cell 10 _ rfl
    have b10 := hB1.cell 10 _ rfl
    by_cases hlt : j < nq
    · have j0 : (0 : Int) ≤ j := by omega
      have j1 : (j : Int) < nq := by omega
      obtain ⟨b1, o1, r1, hA1', hb1, hr1, _, hc1⟩ := (HQ1.out.below HBW.out).at_ hlt
      obtain ⟨b2, o2, r2, hA2', hb2, hr2, _, hc2⟩ := (HQ2.out.below HBW.out).at_ hlt
      have hjl : j < qs.length := by rw [HL.out]; exact hlt
      obtain ⟨x, hx⟩ : ∃ x, qs[j]? = some x := ⟨_, List.getElem?_eq_getElem hjl⟩
      rw [List.getElem?_map, hx] at hr1 hr2
      obtain rfl : r1 = qidC x := (Option.some.inj hr1).symm
      obtain rfl : r2 = qidC x := (Option.some.inj hr2).symm
      obtain ⟨xd, xv, xp⟩ := x
      subst hA1'
      subst hA2'
      have d0 : ∀ p : Abv NoG wr.drew, p.val.cell? ⟨b1, o1 + j * 3, none⟩ = some (.bool xd) := cell_abv (w := wr.drew) (hc1 0 _ rfl) id
      have d1 : ∀ p : Abv NoG wr.drew, p.val.cell? ⟨b1, o1 + j * 3 + 1, none⟩ = some (.int .i64 xv) := cell_abv (w := wr.drew) (hc1 1 _ rfl) id
      have d2 : ∀ p : Abv NoG wr.drew, p.val.cell? ⟨b1, o1 + j * 3 + 2, none⟩ = some (.int .i64 xp) := cell_abv (w := wr.drew) (hc1 2 _ rfl) id
      have e0 : ∀ p : Abv NoG wr.drew, p.val.cell? ⟨b2, o2 + j * 3, none⟩ = some (.bool xd) := cell_abv (w := wr.drew) (hc2 0 _ rfl) id
      have e1 : ∀ p : Abv NoG wr.drew, p.val.cell? ⟨b2, o2 + j * 3 + 1, none⟩ = some (.int .i64 xv) := cell_abv (w := wr.drew) (hc2 1 _ rfl) id
      have e2 : ∀ p : Abv NoG wr.drew, p.val.cell? ⟨b2, o2 + j * 3 + 2, none⟩ = some (.int .i64 xp) := cell_abv (w := wr.drew) (hc2 2 _ rfl) id
      have a10' := cell_abv (G := NoG) (w := wr.drew) a10 id
      have b10' := cell_abv (G := NoG) (w := wr.drew) b10 id
      clear hc1 hc2 hr1 hr2 hx hb1 hb2 hA1 hB1
      go_wp2
      refine wp_region_plan NoG [(0, false), (1, false), (2, false), (3, false), (4, false), (5, false), (6, false), (7, false), (8, false), (9, false), (10, false)] (by kernel_rfl) (by kernel_rfl) ?_
      repeat (refine plan_take (by simp only [List.getElem?_toArray, List.getElem?_cons_succ, List.getElem?_cons_zero]; exact rfl) ?_; go_big_quiet_step (fail); refine wpQuiet_nil ?_)
      refine plan_end ?_
      go_wp2
      go_roundw
      case rel => exact ⟨j + 1, by omega, by go_num, HBW.out.drew⟩
      case measure => simp [intOf]; omega
    · obtain rfl : j = nq := by omega
      have j1 : ¬ (j : Int) < j := by omega
      have a0 := hA1.cell 0 _ rfl
      have b0 := hB1.cell 0 _ rfl
      have a1 := hA1.cell 1 _ rfl
      have b1 := hB1.cell 1 _ rfl
      have a2 := hA1.cell 2 _ rfl
      have b2 := hB1.cell 2 _ rfl
      have a3 := hA1.cell 3 _ rfl
      have b3 := hB1.cell 3 _ rfl
      have a4 := hA1.cell 4 _ rfl
      have b4 := hB1.cell 4 _ rfl
      have a5 := hA1.cell 5 _ rfl
      have b5 := hB1.cell 5 _ rfl
      have a6 := hA1.cell 6 _ rfl
      have b6 := hB1.cell 6 _ rfl
      have a7 := hA1.cell 7 _ rfl
      have b7 := hB1.cell 7 _ rfl
      have a8 := hA1.cell 8 _ rfl
      have b8 := hB1.cell 8 _ rfl
      have a9 := hA1.cell 9 _ rfl
      have b9 := hB1.cell 9 _ rfl
      have HZ := Lib.hid (Up.trans HW.out HBW.out)
      clear hA1 hB1
      go_wp2
      go_ret
      exact ⟨rfl, HZ.out⟩
set_option maxRecDepth 100000 in
set_option maxHeartbeats 8000000 in
theorem rsame_9 (kind : Int) (tag : Int) (code : Int) (msize : Int) (iounit : Int) (count : Int) (name : List UInt8) (qdir : Bool) (qver : Int) (qpath : Int) (Aq : Option Addr) (nq cq : Nat) (Ad : Option Addr) (nd cd : Nat) (sdir : Bool) (sver : Int) (spath : Int) (smode : Int) (ssize : Int) (sname : List UInt8) (qpath' : Int) (Aq' : Option Addr) (nq' cq' : Nat) (Ad' : Option Addr) (nd' cd' : Nat) (sdir' : Bool) (sver' : Int) (spath' : Int) (smode' : Int) (ssize' : Int) (sname' : List UInt8) (w : World) (qs : List QidV) (hq1 : RdR w w.heap.size 3 Aq nq (qs.map qidC)) (hq2 : RdR w w.heap.size 3 Aq' nq' (qs.map qidC)) (hn : nq ≤ 1048576) (hd : ¬ qpath = qpath') :
    Calls Try.prog 13 #[.agg #[.int .i64 kind, .int .i64 tag, .int .i64 code, .int .i64 msize, .int .i64 iounit, .int .i64 count, .string (st name), .bool qdir, .int .i64 qver, .int .i64 qpath, .slice Aq nq cq, .slice Ad nd cd, .bool sdir, .int .i64 sver, .int .i64 spath, .int .i64 smode, .int .i64 ssize, .string (st sname)], .agg #[.int .i64 kind, .int .i64 tag, .int .i64 code, .int .i64 msize, .int .i64 iounit, .int .i64 count, .string (st name), .bool qdir, .int .i64 qver, .int .i64 qpath', .slice Aq' nq' cq', .slice Ad' nd' cd', .bool sdir', .int .i64 sver', .int .i64 spath', .int .i64 smode', .int .i64 ssize', .string (st sname')]] w fun e w' => e = .returned (.bool false) ∧ Below w.heap.size w w' := by
  obtain rfl : nq = nq' := by rw [← hq1.len, ← hq2.len]
  have hlq : qs.length = nq := by have := hq1.len; simpa using this
  have HL := Lib.hid hlq
  have gQ : Try.prog.eqGuardType Try.prog.depth 23 = false := by kernel_rfl
  have sQ : Try.prog.stoodInHeld 23 = false := by kernel_rfl
  have gS : Try.prog.eqGuardType Try.prog.depth 27 = false := by kernel_rfl
  have sS : Try.prog.stoodInHeld 27 = false := by kernel_rfl
  have hA0 := (Blk.new w 29 [.int .i64 kind, .int .i64 tag, .int .i64 code, .int .i64 msize, .int .i64 iounit, .int .i64 count, .string (st name), .bool qdir, .int .i64 qver, .int .i64 qpath, .slice Aq nq cq, .slice Ad nd cd, .bool sdir, .int .i64 sver, .int .i64 spath, .int .i64 smode, .int .i64 ssize, .string (st sname)]).alloc (.cells #[.int .i64 kind, .int .i64 tag, .int .i64 code, .int .i64 msize, .int .i64 iounit, .int .i64 count, .string (st name), .bool qdir, .int .i64 qver, .int .i64 qpath', .slice Aq' nq cq', .slice Ad' nd' cd', .bool sdir', .int .i64 sver', .int .i64 spath', .int .i64 smode', .int .i64 ssize', .string (st sname')] 29)
  have hB0 := Blk.new (w.alloc (.cells #[.int .i64 kind, .int .i64 tag, .int .i64 code, .int .i64 msize, .int .i64 iounit, .int .i64 count, .string (st name), .bool qdir, .int .i64 qver, .int .i64 qpath, .slice Aq nq cq, .slice Ad nd cd, .bool sdir, .int .i64 sver, .int .i64 spath, .int .i64 smode, .int .i64 ssize, .string (st sname)] 29)) 29 [.int .i64 kind, .int .i64 tag, .int .i64 code, .int .i64 msize, .int .i64 iounit, .int .i64 count, .string (st name), .bool qdir, .int .i64 qver, .int .i64 qpath', .slice Aq' nq cq', .slice Ad' nd' cd', .bool sdir', .int .i64 sver', .int .i64 spath', .int .i64 smode', .int .i64 ssize', .string (st sname')]
  have hb : Below w.heap.size w ((w.alloc (.cells #[.int .i64 kind, .int .i64 tag, .int .i64 code, .int .i64 msize, .int .i64 iounit, .int .i64 count, .string (st name), .bool qdir, .int .i64 qver, .int .i64 qpath, .slice Aq nq cq, .slice Ad nd cd, .bool sdir, .int .i64 sver, .int .i64 spath, .int .i64 smode, .int .i64 ssize, .string (st sname)] 29)).alloc (.cells #[.int .i64 kind, .int .i64 tag, .int .i64 code, .int .i64 msize, .int .i64 iounit, .int .i64 count, .string (st name), .bool qdir, .int .i64 qver, .int .i64 qpath', .slice Aq' nq cq', .slice Ad' nd' cd', .bool sdir', .int .i64 sver', .int .i64 spath', .int .i64 smode', .int .i64 ssize', .string (st sname')] 29)) := ((Below.refl _ _).alloc (Nat.le_refl _) _).alloc (by simp) _
  rw [show (w.alloc (.cells #[.int .i64 kind, .int .i64 tag, .int .i64 code, .int .i64 msize, .int .i64 iounit, .int .i64 count, .string (st name), .bool qdir, .int .i64 qver, .int .i64 qpath, .slice Aq nq cq, .slice Ad nd cd, .bool sdir, .int .i64 sver, .int .i64 spath, .int .i64 smode, .int .i64 ssize, .string (st sname)] 29)).heap.size = w.heap.size + 1 by simp] at hB0
  obtain ⟨W, hW⟩ : ∃ W, W = (w.alloc (.cells #[.int .i64 kind, .int .i64 tag, .int .i64 code, .int .i64 msize, .int .i64 iounit, .int .i64 count, .string (st name), .bool qdir, .int .i64 qver, .int .i64 qpath, .slice Aq nq cq, .slice Ad nd cd, .bool sdir, .int .i64 sver, .int .i64 spath, .int .i64 smode, .int .i64 ssize, .string (st sname)] 29)).alloc (.cells #[.int .i64 kind, .int .i64 tag, .int .i64 code, .int .i64 msize, .int .i64 iounit, .int .i64 count, .string (st name), .bool qdir, .int .i64 qver, .int .i64 qpath', .slice Aq' nq cq', .slice Ad' nd' cd', .bool sdir', .int .i64 sver', .int .i64 spath', .int .i64 smode', .int .i64 ssize', .string (st sname')] 29) := ⟨_, rfl⟩
  have hW' : W = (w.alloc (.cells [.int .i64 kind, .int .i64 tag, .int .i64 code, .int .i64 msize, .int .i64 iounit, .int .i64 count, .string (st name), .bool qdir, .int .i64 qver, .int .i64 qpath, .slice Aq nq cq, .slice Ad nd cd, .bool sdir, .int .i64 sver, .int .i64 spath, .int .i64 smode, .int .i64 ssize, .string (st sname)].toArray 29)).alloc (.cells #[.int .i64 kind, .int .i64 tag, .int .i64 code, .int .i64 msize, .int .i64 iounit, .int .i64 count, .string (st name), .bool qdir, .int .i64 qver, .int .i64 qpath', .slice Aq' nq cq', .slice Ad' nd' cd', .bool sdir', .int .i64 sver', .int .i64 spath', .int .i64 smode', .int .i64 ssize', .string (st sname')] 29) := hW
  have hW'' : W = (w.alloc (.cells #[.int .i64 kind, .int .i64 tag, .int .i64 code, .int .i64 msize, .int .i64 iounit, .int .i64 count, .string (st name), .bool qdir, .int .i64 qver, .int .i64 qpath, .slice Aq nq cq, .slice Ad nd cd, .bool sdir, .int .i64 sver, .int .i64 spath, .int .i64 smode, .int .i64 ssize, .string (st sname)] 29)).alloc (.cells [.int .i64 kind, .int .i64 tag, .int .i64 code, .int .i64 msize, .int .i64 iounit, .int .i64 count, .string (st name), .bool qdir, .int .i64 qver, .int .i64 qpath', .slice Aq' nq cq', .slice Ad' nd' cd', .bool sdir', .int .i64 sver', .int .i64 spath', .int .i64 smode', .int .i64 ssize', .string (st sname')].toArray 29) := hW
  rw [← hW'] at hA0
  rw [← hW''] at hB0
  rw [← hW] at hb
  have HQ1 := Lib.hid (hq1.up hb)
  have HQ2 := Lib.hid (hq2.up hb)
  have a10 := hA0.cell 10 _ rfl
  have b10 := hB0.cell 10 _ rfl
  have HA := Lib.hid hA0
  have HB := Lib.hid hB0
  have HW := Lib.hid hb
  clear hq1 hq2 hA0 hB0 hb hW' hW'' hlq
  go_enter Try.func13, Try.ntmps13
  go_upto_region 1 with fail
  rw [← hW]
  clear hW
  go_wp2
  go_loopw [5] (fun i wr => RsJ nq W i wr) (fun i _ => nq - (intOf i).toNat)
  case atStart => exact ⟨0, by omega, rfl, Below.refl _ _⟩
  case round =>
    obtain ⟨j, hj, rfl, hbw⟩ := hrel
    have hA1 := HA.out.up hbw
    have hB1 := HB.out.up hbw
    have HBW := Lib.hid hbw
    clear hbw a10 b10
    have a10 := hA1.cell 10 _ rfl
    have b10 := hB1.cell 10 _ rfl
    by_cases hlt : j < nq
    · have j0 : (0 : Int) ≤ j := by omega
      have j1 : (j : Int) < nq := by omega
      obtain ⟨b1, o1, r1, hA1', hb1, hr1, _, hc1⟩ := (HQ1.out.below HBW.out).at_ hlt
      obtain ⟨b2, o2, r2, hA2', hb2, hr2, _, hc2⟩ := (HQ2.out.below HBW.out).at_ hlt
      have hjl : j < qs.length := by rw [HL.out]; exact hlt
      obtain ⟨x, hx⟩ : ∃ x, qs[j]? = some x := ⟨_, List.getElem?_eq_getElem hjl⟩
      rw [List.getElem?_map, hx] at hr1 hr2
      obtain rfl : r1 = qidC x := (Option.some.inj hr1).symm
      obtain rfl : r2 = qidC x := (Option.some.inj hr2).symm
      obtain ⟨xd, xv, xp⟩ := x
      subst hA1'
      subst hA2'
      have d0 : ∀ p : Abv NoG wr.drew, p.val.cell? ⟨b1, o1 + j * 3, none⟩ = some (.bool xd) := cell_abv (w := wr.drew) (hc1 0 _ rfl) id
      have d1 : ∀ p : Abv NoG wr.drew, p.val.cell? ⟨b1, o1 + j * 3 + 1, none⟩ = some (.int .i64 xv) := cell_abv (w := wr.drew) (hc1 1 _ rfl) id
      have d2 : ∀ p : Abv NoG wr.drew, p.val.cell? ⟨b1, o1 + j * 3 + 2, none⟩ = some (.int .i64 xp) := cell_abv (w := wr.drew) (hc1 2 _ rfl) id
      have e0 : ∀ p : Abv NoG wr.drew, p.val.cell? ⟨b2, o2 + j * 3, none⟩ = some (.bool xd) := cell_abv (w := wr.drew) (hc2 0 _ rfl) id
      have e1 : ∀ p : Abv NoG wr.drew, p.val.cell? ⟨b2, o2 + j * 3 + 1, none⟩ = some (.int .i64 xv) := cell_abv (w := wr.drew) (hc2 1 _ rfl) id
      have e2 : ∀ p : Abv NoG wr.drew, p.val.cell? ⟨b2, o2 + j * 3 + 2, none⟩ = some (.int .i64 xp) := cell_abv (w := wr.drew) (hc2 2 _ rfl) id
      have a10' := cell_abv (G := NoG) (w := wr.drew) a10 id
      have b10' := cell_abv (G := NoG) (w := wr.drew) b10 id
      clear hc1 hc2 hr1 hr2 hx hb1 hb2 hA1 hB1
      go_wp2
      refine wp_region_plan NoG [(0, false), (1, false), (2, false), (3, false), (4, false), (5, false), (6, false), (7, false), (8, false), (9, false), (10, false)] (by kernel_rfl) (by kernel_rfl) ?_
      repeat (refine plan_take (by simp only [List.getElem?_toArray, List.getElem?_cons_succ, List.getElem?_cons_zero]; exact rfl) ?_; go_big_quiet_step (fail); refine wpQuiet_nil ?_)
      refine plan_end ?_
      go_wp2
      go_roundw
      case rel => exact ⟨j + 1, by omega, by go_num, HBW.out.drew⟩
      case measure => simp [intOf]; omega
    · obtain rfl : j = nq := by omega
      have j1 : ¬ (j : Int) < j := by omega
      have a0 := hA1.cell 0 _ rfl
      have b0 := hB1.cell 0 _ rfl
      have a1 := hA1.cell 1 _ rfl
      have b1 := hB1.cell 1 _ rfl
      have a2 := hA1.cell 2 _ rfl
      have b2 := hB1.cell 2 _ rfl
      have a3 := hA1.cell 3 _ rfl
      have b3 := hB1.cell 3 _ rfl
      have a4 := hA1.cell 4 _ rfl
      have b4 := hB1.cell 4 _ rfl
      have a5 := hA1.cell 5 _ rfl
      have b5 := hB1.cell 5 _ rfl
      have a6 := hA1.cell 6 _ rfl
      have b6 := hB1.cell 6 _ rfl
      have a7 := hA1.cell 7 _ rfl
      have b7 := hB1.cell 7 _ rfl
      have a8 := hA1.cell 8 _ rfl
      have b8 := hB1.cell 8 _ rfl
      have a9 := hA1.cell 9 _ rfl
      have b9 := hB1.cell 9 _ rfl
      have HZ := Lib.hid (Up.trans HW.out HBW.out)
      clear hA1 hB1
      go_wp2
      go_ret
      exact ⟨rfl, HZ.out⟩
set_option maxRecDepth 100000 in
set_option maxHeartbeats 8000000 in
theorem rsame_12 (kind : Int) (tag : Int) (code : Int) (msize : Int) (iounit : Int) (count : Int) (name : List UInt8) (qdir : Bool) (qver : Int) (qpath : Int) (Aq : Option Addr) (nq cq : Nat) (Ad : Option Addr) (nd cd : Nat) (sdir : Bool) (sver : Int) (spath : Int) (smode : Int) (ssize : Int) (sname : List UInt8) (Aq' : Option Addr) (nq' cq' : Nat) (Ad' : Option Addr) (nd' cd' : Nat) (sdir' : Bool) (sver' : Int) (spath' : Int) (smode' : Int) (ssize' : Int) (sname' : List UInt8) (w : World) (qs : List QidV) (hq1 : RdR w w.heap.size 3 Aq nq (qs.map qidC)) (hq2 : RdR w w.heap.size 3 Aq' nq' (qs.map qidC)) (hn : nq ≤ 1048576) (hd : ¬ sdir = sdir') :
    Calls Try.prog 13 #[.agg #[.int .i64 kind, .int .i64 tag, .int .i64 code, .int .i64 msize, .int .i64 iounit, .int .i64 count, .string (st name), .bool qdir, .int .i64 qver, .int .i64 qpath, .slice Aq nq cq, .slice Ad nd cd, .bool sdir, .int .i64 sver, .int .i64 spath, .int .i64 smode, .int .i64 ssize, .string (st sname)], .agg #[.int .i64 kind, .int .i64 tag, .int .i64 code, .int .i64 msize, .int .i64 iounit, .int .i64 count, .string (st name), .bool qdir, .int .i64 qver, .int .i64 qpath, .slice Aq' nq' cq', .slice Ad' nd' cd', .bool sdir', .int .i64 sver', .int .i64 spath', .int .i64 smode', .int .i64 ssize', .string (st sname')]] w fun e w' => e = .returned (.bool false) ∧ Below w.heap.size w w' := by
  obtain rfl : nq = nq' := by rw [← hq1.len, ← hq2.len]
  have hlq : qs.length = nq := by have := hq1.len; simpa using this
  have HL := Lib.hid hlq
  have gQ : Try.prog.eqGuardType Try.prog.depth 23 = false := by kernel_rfl
  have sQ : Try.prog.stoodInHeld 23 = false := by kernel_rfl
  have gS : Try.prog.eqGuardType Try.prog.depth 27 = false := by kernel_rfl
  have sS : Try.prog.stoodInHeld 27 = false := by kernel_rfl
  have hA0 := (Blk.new w 29 [.int .i64 kind, .int .i64 tag, .int .i64 code, .int .i64 msize, .int .i64 iounit, .int .i64 count, .string (st name), .bool qdir, .int .i64 qver, .int .i64 qpath, .slice Aq nq cq, .slice Ad nd cd, .bool sdir, .int .i64 sver, .int .i64 spath, .int .i64 smode, .int .i64 ssize, .string (st sname)]).alloc (.cells #[.int .i64 kind, .int .i64 tag, .int .i64 code, .int .i64 msize, .int .i64 iounit, .int .i64 count, .string (st name), .bool qdir, .int .i64 qver, .int .i64 qpath, .slice Aq' nq cq', .slice Ad' nd' cd', .bool sdir', .int .i64 sver', .int .i64 spath', .int .i64 smode', .int .i64 ssize', .string (st sname')] 29)
  have hB0 := Blk.new (w.alloc (.cells #[.int .i64 kind, .int .i64 tag, .int .i64 code, .int .i64 msize, .int .i64 iounit, .int .i64 count, .string (st name), .bool qdir, .int .i64 qver, .int .i64 qpath, .slice Aq nq cq, .slice Ad nd cd, .bool sdir, .int .i64 sver, .int .i64 spath, .int .i64 smode, .int .i64 ssize, .string (st sname)] 29)) 29 [.int .i64 kind, .int .i64 tag, .int .i64 code, .int .i64 msize, .int .i64 iounit, .int .i64 count, .string (st name), .bool qdir, .int .i64 qver, .int .i64 qpath, .slice Aq' nq cq', .slice Ad' nd' cd', .bool sdir', .int .i64 sver', .int .i64 spath', .int .i64 smode', .int .i64 ssize', .string (st sname')]
  have hb : Below w.heap.size w ((w.alloc (.cells #[.int .i64 kind, .int .i64 tag, .int .i64 code, .int .i64 msize, .int .i64 iounit, .int .i64 count, .string (st name), .bool qdir, .int .i64 qver, .int .i64 qpath, .slice Aq nq cq, .slice Ad nd cd, .bool sdir, .int .i64 sver, .int .i64 spath, .int .i64 smode, .int .i64 ssize, .string (st sname)] 29)).alloc (.cells #[.int .i64 kind, .int .i64 tag, .int .i64 code, .int .i64 msize, .int .i64 iounit, .int .i64 count, .string (st name), .bool qdir, .int .i64 qver, .int .i64 qpath, .slice Aq' nq cq', .slice Ad' nd' cd', .bool sdir', .int .i64 sver', .int .i64 spath', .int .i64 smode', .int .i64 ssize', .string (st sname')] 29)) := ((Below.refl _ _).alloc (Nat.le_refl _) _).alloc (by simp) _
  rw [show (w.alloc (.cells #[.int .i64 kind, .int .i64 tag, .int .i64 code, .int .i64 msize, .int .i64 iounit, .int .i64 count, .string (st name), .bool qdir, .int .i64 qver, .int .i64 qpath, .slice Aq nq cq, .slice Ad nd cd, .bool sdir, .int .i64 sver, .int .i64 spath, .int .i64 smode, .int .i64 ssize, .string (st sname)] 29)).heap.size = w.heap.size + 1 by simp] at hB0
  obtain ⟨W, hW⟩ : ∃ W, W = (w.alloc (.cells #[.int .i64 kind, .int .i64 tag, .int .i64 code, .int .i64 msize, .int .i64 iounit, .int .i64 count, .string (st name), .bool qdir, .int .i64 qver, .int .i64 qpath, .slice Aq nq cq, .slice Ad nd cd, .bool sdir, .int .i64 sver, .int .i64 spath, .int .i64 smode, .int .i64 ssize, .string (st sname)] 29)).alloc (.cells #[.int .i64 kind, .int .i64 tag, .int .i64 code, .int .i64 msize, .int .i64 iounit, .int .i64 count, .string (st name), .bool qdir, .int .i64 qver, .int .i64 qpath, .slice Aq' nq cq', .slice Ad' nd' cd', .bool sdir', .int .i64 sver', .int .i64 spath', .int .i64 smode', .int .i64 ssize', .string (st sname')] 29) := ⟨_, rfl⟩
  have hW' : W = (w.alloc (.cells [.int .i64 kind, .int .i64 tag, .int .i64 code, .int .i64 msize, .int .i64 iounit, .int .i64 count, .string (st name), .bool qdir, .int .i64 qver, .int .i64 qpath, .slice Aq nq cq, .slice Ad nd cd, .bool sdir, .int .i64 sver, .int .i64 spath, .int .i64 smode, .int .i64 ssize, .string (st sname)].toArray 29)).alloc (.cells #[.int .i64 kind, .int .i64 tag, .int .i64 code, .int .i64 msize, .int .i64 iounit, .int .i64 count, .string (st name), .bool qdir, .int .i64 qver, .int .i64 qpath, .slice Aq' nq cq', .slice Ad' nd' cd', .bool sdir', .int .i64 sver', .int .i64 spath', .int .i64 smode', .int .i64 ssize', .string (st sname')] 29) := hW
  have hW'' : W = (w.alloc (.cells #[.int .i64 kind, .int .i64 tag, .int .i64 code, .int .i64 msize, .int .i64 iounit, .int .i64 count, .string (st name), .bool qdir, .int .i64 qver, .int .i64 qpath, .slice Aq nq cq, .slice Ad nd cd, .bool sdir, .int .i64 sver, .int .i64 spath, .int .i64 smode, .int .i64 ssize, .string (st sname)] 29)).alloc (.cells [.int .i64 kind, .int .i64 tag, .int .i64 code, .int .i64 msize, .int .i64 iounit, .int .i64 count, .string (st name), .bool qdir, .int .i64 qver, .int .i64 qpath, .slice Aq' nq cq', .slice Ad' nd' cd', .bool sdir', .int .i64 sver', .int .i64 spath', .int .i64 smode', .int .i64 ssize', .string (st sname')].toArray 29) := hW
  rw [← hW'] at hA0
  rw [← hW''] at hB0
  rw [← hW] at hb
  have HQ1 := Lib.hid (hq1.up hb)
  have HQ2 := Lib.hid (hq2.up hb)
  have a10 := hA0.cell 10 _ rfl
  have b10 := hB0.cell 10 _ rfl
  have HA := Lib.hid hA0
  have HB := Lib.hid hB0
  have HW := Lib.hid hb
  clear hq1 hq2 hA0 hB0 hb hW' hW'' hlq
  go_enter Try.func13, Try.ntmps13
  go_upto_region 1 with fail
  rw [← hW]
  clear hW
  go_wp2
  go_loopw [5] (fun i wr => RsJ nq W i wr) (fun i _ => nq - (intOf i).toNat)
  case atStart => exact ⟨0, by omega, rfl, Below.refl _ _⟩
  case round =>
    obtain ⟨j, hj, rfl, hbw⟩ := hrel
    have hA1 := HA.out.up hbw
    have hB1 := HB.out.up hbw
    have HBW := Lib.hid hbw
    clear hbw a10 b10
    have a10 := hA1.cell 10 _ rfl
    have b10 := hB1.cell 10 _ rfl
    by_cases hlt : j < nq
    · have j0 : (0 : Int) ≤ j := by omega
      have j1 : (j : Int) < nq := by omega
      obtain ⟨b1, o1, r1, hA1', hb1, hr1, _, hc1⟩ := (HQ1.out.below HBW.out).at_ hlt
      obtain ⟨b2, o2, r2, hA2', hb2, hr2, _, hc2⟩ := (HQ2.out.below HBW.out).at_ hlt
      have hjl : j < qs.length := by rw [HL.out]; exact hlt
      obtain ⟨x, hx⟩ : ∃ x, qs[j]? = some x := ⟨_, List.getElem?_eq_getElem hjl⟩
      rw [List.getElem?_map, hx] at hr1 hr2
      obtain rfl : r1 = qidC x := (Option.some.inj hr1).symm
      obtain rfl : r2 = qidC x := (Option.some.inj hr2).symm
      obtain ⟨xd, xv, xp⟩ := x
      subst hA1'
      subst hA2'
      have d0 : ∀ p : Abv NoG wr.drew, p.val.cell? ⟨b1, o1 + j * 3, none⟩ = some (.bool xd) := cell_abv (w := wr.drew) (hc1 0 _ rfl) id
      have d1 : ∀ p : Abv NoG wr.drew, p.val.cell? ⟨b1, o1 + j * 3 + 1, none⟩ = some (.int .i64 xv) := cell_abv (w := wr.drew) (hc1 1 _ rfl) id
      have d2 : ∀ p : Abv NoG wr.drew, p.val.cell? ⟨b1, o1 + j * 3 + 2, none⟩ = some (.int .i64 xp) := cell_abv (w := wr.drew) (hc1 2 _ rfl) id
      have e0 : ∀ p : Abv NoG wr.drew, p.val.cell? ⟨b2, o2 + j * 3, none⟩ = some (.bool xd) := cell_abv (w := wr.drew) (hc2 0 _ rfl) id
      have e1 : ∀ p : Abv NoG wr.drew, p.val.cell? ⟨b2, o2 + j * 3 + 1, none⟩ = some (.int .i64 xv) := cell_abv (w := wr.drew) (hc2 1 _ rfl) id
      have e2 : ∀ p : Abv NoG wr.drew, p.val.cell? ⟨b2, o2 + j * 3 + 2, none⟩ = some (.int .i64 xp) := cell_abv (w := wr.drew) (hc2 2 _ rfl) id
      have a10' := cell_abv (G := NoG) (w := wr.drew) a10 id
      have b10' := cell_abv (G := NoG) (w := wr.drew) b10 id
      clear hc1 hc2 hr1 hr2 hx hb1 hb2 hA1 hB1
      go_wp2
      refine wp_region_plan NoG [(0, false), (1, false), (2, false), (3, false), (4, false), (5, false), (6, false), (7, false), (8, false), (9, false), (10, false)] (by kernel_rfl) (by kernel_rfl) ?_
      repeat (refine plan_take (by simp only [List.getElem?_toArray, List.getElem?_cons_succ, List.getElem?_cons_zero]; exact rfl) ?_; go_big_quiet_step (fail); refine wpQuiet_nil ?_)
      refine plan_end ?_
      go_wp2
      go_roundw
      case rel => exact ⟨j + 1, by omega, by go_num, HBW.out.drew⟩
      case measure => simp [intOf]; omega
    · obtain rfl : j = nq := by omega
      have j1 : ¬ (j : Int) < j := by omega
      have a0 := hA1.cell 0 _ rfl
      have b0 := hB1.cell 0 _ rfl
      have a1 := hA1.cell 1 _ rfl
      have b1 := hB1.cell 1 _ rfl
      have a2 := hA1.cell 2 _ rfl
      have b2 := hB1.cell 2 _ rfl
      have a3 := hA1.cell 3 _ rfl
      have b3 := hB1.cell 3 _ rfl
      have a4 := hA1.cell 4 _ rfl
      have b4 := hB1.cell 4 _ rfl
      have a5 := hA1.cell 5 _ rfl
      have b5 := hB1.cell 5 _ rfl
      have a6 := hA1.cell 6 _ rfl
      have b6 := hB1.cell 6 _ rfl
      have a7 := hA1.cell 7 _ rfl
      have b7 := hB1.cell 7 _ rfl
      have a8 := hA1.cell 8 _ rfl
      have b8 := hB1.cell 8 _ rfl
      have a9 := hA1.cell 9 _ rfl
      have b9 := hB1.cell 9 _ rfl
      have a12 := hA1.cell 12 _ rfl
      have b12 := hB1.cell 12 _ rfl
      have a13 := hA1.cell 13 _ rfl
      have b13 := hB1.cell 13 _ rfl
      have a14 := hA1.cell 14 _ rfl
      have b14 := hB1.cell 14 _ rfl
      have a15 := hA1.cell 15 _ rfl
      have b15 := hB1.cell 15 _ rfl
      have a16 := hA1.cell 16 _ rfl
      have b16 := hB1.cell 16 _ rfl
      have a17 := hA1.cell 17 _ rfl
      have b17 := hB1.cell 17 _ rfl
      have HZ := Lib.hid (Up.trans HW.out HBW.out)
      clear hA1 hB1
      go_wp2
      go_ret
      exact ⟨rfl, HZ.out⟩
set_option maxRecDepth 100000 in
set_option maxHeartbeats 8000000 in
theorem rsame_13 (kind : Int) (tag : Int) (code : Int) (msize : Int) (iounit : Int) (count : Int) (name : List UInt8) (qdir : Bool) (qver : Int) (qpath : Int) (Aq : Option Addr) (nq cq : Nat) (Ad : Option Addr) (nd cd : Nat) (sdir : Bool) (sver : Int) (spath : Int) (smode : Int) (ssize : Int) (sname : List UInt8) (Aq' : Option Addr) (nq' cq' : Nat) (Ad' : Option Addr) (nd' cd' : Nat) (sver' : Int) (spath' : Int) (smode' : Int) (ssize' : Int) (sname' : List UInt8) (w : World) (qs : List QidV) (hq1 : RdR w w.heap.size 3 Aq nq (qs.map qidC)) (hq2 : RdR w w.heap.size 3 Aq' nq' (qs.map qidC)) (hn : nq ≤ 1048576) (hd : ¬ sver = sver') :
    Calls Try.prog 13 #[.agg #[.int .i64 kind, .int .i64 tag, .int .i64 code, .int .i64 msize, .int .i64 iounit, .int .i64 count, .string (st name), .bool qdir, .int .i64 qver, .int .i64 qpath, .slice Aq nq cq, .slice Ad nd cd, .bool sdir, .int .i64 sver, .int .i64 spath, .int .i64 smode, .int .i64 ssize, .string (st sname)], .agg #[.int .i64 kind, .int .i64 tag, .int .i64 code, .int .i64 msize, .int .i64 iounit, .int .i64 count, .string (st name), .bool qdir, .int .i64 qver, .int .i64 qpath, .slice Aq' nq' cq', .slice Ad' nd' cd', .bool sdir, .int .i64 sver', .int .i64 spath', .int .i64 smode', .int .i64 ssize', .string (st sname')]] w fun e w' => e = .returned (.bool false) ∧ Below w.heap.size w w' := by
  obtain rfl : nq = nq' := by rw [← hq1.len, ← hq2.len]
  have hlq : qs.length = nq := by have := hq1.len; simpa using this
  have HL := Lib.hid hlq
  have gQ : Try.prog.eqGuardType Try.prog.depth 23 = false := by kernel_rfl
  have sQ : Try.prog.stoodInHeld 23 = false := by kernel_rfl
  have gS : Try.prog.eqGuardType Try.prog.depth 27 = false := by kernel_rfl
  have sS : Try.prog.stoodInHeld 27 = false := by kernel_rfl
  have hA0 := (Blk.new w 29 [.int .i64 kind, .int .i64 tag, .int .i64 code, .int .i64 msize, .int .i64 iounit, .int .i64 count, .string (st name), .bool qdir, .int .i64 qver, .int .i64 qpath, .slice Aq nq cq, .slice Ad nd cd, .bool sdir, .int .i64 sver, .int .i64 spath, .int .i64 smode, .int .i64 ssize, .string (st sname)]).alloc (.cells #[.int .i64 kind, .int .i64 tag, .int .i64 code, .int .i64 msize, .int .i64 iounit, .int .i64 count, .string (st name), .bool qdir, .int .i64 qver, .int .i64 qpath, .slice Aq' nq cq', .slice Ad' nd' cd', .bool sdir, .int .i64 sver', .int .i64 spath', .int .i64 smode', .int .i64 ssize', .string (st sname')] 29)
  have hB0 := Blk.new (w.alloc (.cells #[.int .i64 kind, .int .i64 tag, .int .i64 code, .int .i64 msize, .int .i64 iounit, .int .i64 count, .string (st name), .bool qdir, .int .i64 qver, .int .i64 qpath, .slice Aq nq cq, .slice Ad nd cd, .bool sdir, .int .i64 sver, .int .i64 spath, .int .i64 smode, .int .i64 ssize, .string (st sname)] 29)) 29 [.int .i64 kind, .int .i64 tag, .int .i64 code, .int .i64 msize, .int .i64 iounit, .int .i64 count, .string (st name), .bool qdir, .int .i64 qver, .int .i64 qpath, .slice Aq' nq cq', .slice Ad' nd' cd', .bool sdir, .int .i64 sver', .int .i64 spath', .int .i64 smode', .int .i64 ssize', .string (st sname')]
  have hb : Below w.heap.size w ((w.alloc (.cells #[.int .i64 kind, .int .i64 tag, .int .i64 code, .int .i64 msize, .int .i64 iounit, .int .i64 count, .string (st name), .bool qdir, .int .i64 qver, .int .i64 qpath, .slice Aq nq cq, .slice Ad nd cd, .bool sdir, .int .i64 sver, .int .i64 spath, .int .i64 smode, .int .i64 ssize, .string (st sname)] 29)).alloc (.cells #[.int .i64 kind, .int .i64 tag, .int .i64 code, .int .i64 msize, .int .i64 iounit, .int .i64 count, .string (st name), .bool qdir, .int .i64 qver, .int .i64 qpath, .slice Aq' nq cq', .slice Ad' nd' cd', .bool sdir, .int .i64 sver', .int .i64 spath', .int .i64 smode', .int .i64 ssize', .string (st sname')] 29)) := ((Below.refl _ _).alloc (Nat.le_refl _) _).alloc (by simp) _
  rw [show (w.alloc (.cells #[.int .i64 kind, .int .i64 tag, .int .i64 code, .int .i64 msize, .int .i64 iounit, .int .i64 count, .string (st name), .bool qdir, .int .i64 qver, .int .i64 qpath, .slice Aq nq cq, .slice Ad nd cd, .bool sdir, .int .i64 sver, .int .i64 spath, .int .i64 smode, .int .i64 ssize, .string (st sname)] 29)).heap.size = w.heap.size + 1 by simp] at hB0
  obtain ⟨W, hW⟩ : ∃ W, W = (w.alloc (.cells #[.int .i64 kind, .int .i64 tag, .int .i64 code, .int .i64 msize, .int .i64 iounit, .int .i64 count, .string (st name), .bool qdir, .int .i64 qver, .int .i64 qpath, .slice Aq nq cq, .slice Ad nd cd, .bool sdir, .int .i64 sver, .int .i64 spath, .int .i64 smode, .int .i64 ssize, .string (st sname)] 29)).alloc (.cells #[.int .i64 kind, .int .i64 tag, .int .i64 code, .int .i64 msize, .int .i64 iounit, .int .i64 count, .string (st name), .bool qdir, .int .i64 qver, .int .i64 qpath, .slice Aq' nq cq', .slice Ad' nd' cd', .bool sdir, .int .i64 sver', .int .i64 spath', .int .i64 smode', .int .i64 ssize', .string (st sname')] 29) := ⟨_, rfl⟩
  have hW' : W = (w.alloc (.cells [.int .i64 kind, .int .i64 tag, .int .i64 code, .int .i64 msize, .int .i64 iounit, .int .i64 count, .string (st name), .bool qdir, .int .i64 qver, .int .i64 qpath, .slice Aq nq cq, .slice Ad nd cd, .bool sdir, .int .i64 sver, .int .i64 spath, .int .i64 smode, .int .i64 ssize, .string (st sname)].toArray 29)).alloc (.cells #[.int .i64 kind, .int .i64 tag, .int .i64 code, .int .i64 msize, .int .i64 iounit, .int .i64 count, .string (st name), .bool qdir, .int .i64 qver, .int .i64 qpath, .slice Aq' nq cq', .slice Ad' nd' cd', .bool sdir, .int .i64 sver', .int .i64 spath', .int .i64 smode', .int .i64 ssize', .string (st sname')] 29) := hW
  have hW'' : W = (w.alloc (.cells #[.int .i64 kind, .int .i64 tag, .int .i64 code, .int .i64 msize, .int .i64 iounit, .int .i64 count, .string (st name), .bool qdir, .int .i64 qver, .int .i64 qpath, .slice Aq nq cq, .slice Ad nd cd, .bool sdir, .int .i64 sver, .int .i64 spath, .int .i64 smode, .int .i64 ssize, .string (st sname)] 29)).alloc (.cells [.int .i64 kind, .int .i64 tag, .int .i64 code, .int .i64 msize, .int .i64 iounit, .int .i64 count, .string (st name), .bool qdir, .int .i64 qver, .int .i64 qpath, .slice Aq' nq cq', .slice Ad' nd' cd', .bool sdir, .int .i64 sver', .int .i64 spath', .int .i64 smode', .int .i64 ssize', .string (st sname')].toArray 29) := hW
  rw [← hW'] at hA0
  rw [← hW''] at hB0
  rw [← hW] at hb
  have HQ1 := Lib.hid (hq1.up hb)
  have HQ2 := Lib.hid (hq2.up hb)
  have a10 := hA0.cell 10 _ rfl
  have b10 := hB0.cell 10 _ rfl
  have HA := Lib.hid hA0
  have HB := Lib.hid hB0
  have HW := Lib.hid hb
  clear hq1 hq2 hA0 hB0 hb hW' hW'' hlq
  go_enter Try.func13, Try.ntmps13
  go_upto_region 1 with fail
  rw [← hW]
  clear hW
  go_wp2
  go_loopw [5] (fun i wr => RsJ nq W i wr) (fun i _ => nq - (intOf i).toNat)
  case atStart => exact ⟨0, by omega, rfl, Below.refl _ _⟩
  case round =>
    obtain ⟨j, hj, rfl, hbw⟩ := hrel
    have hA1 := HA.out.up hbw
    have hB1 := HB.out.up hbw
    have HBW := Lib.hid hbw
    clear hbw a10 b10
    have a10 := hA1.cell 10 _ rfl
    have b10 := hB1.cell 10 _ rfl
    by_cases hlt : j < nq
    · have j0 : (0 : Int) ≤ j := by omega
      have j1 : (j : Int) < nq := by omega
      obtain ⟨b1, o1, r1, hA1', hb1, hr1, _, hc1⟩ := (HQ1.out.below HBW.out).at_ hlt
      obtain ⟨b2, o2, r2, hA2', hb2, hr2, _, hc2⟩ := (HQ2.out.below HBW.out).at_ hlt
      have hjl : j < qs.length := by rw [HL.out]; exact hlt
      obtain ⟨x, hx⟩ : ∃ x, qs[j]? = some x := ⟨_, List.getElem?_eq_getElem hjl⟩
      rw [List.getElem?_map, hx] at hr1 hr2
      obtain rfl : r1 = qidC x := (Option.some.inj hr1).symm
      obtain rfl : r2 = qidC x := (Option.some.inj hr2).symm
      obtain ⟨xd, xv, xp⟩ := x
      subst hA1'
      subst hA2'
      have d0 : ∀ p : Abv NoG wr.drew, p.val.cell? ⟨b1, o1 + j * 3, none⟩ = some (.bool xd) := cell_abv (w := wr.drew) (hc1 0 _ rfl) id
      have d1 : ∀ p : Abv NoG wr.drew, p.val.cell? ⟨b1, o1 + j * 3 + 1, none⟩ = some (.int .i64 xv) := cell_abv (w := wr.drew) (hc1 1 _ rfl) id
      have d2 : ∀ p : Abv NoG wr.drew, p.val.cell? ⟨b1, o1 + j * 3 + 2, none⟩ = some (.int .i64 xp) := cell_abv (w := wr.drew) (hc1 2 _ rfl) id
      have e0 : ∀ p : Abv NoG wr.drew, p.val.cell? ⟨b2, o2 + j * 3, none⟩ = some (.bool xd) := cell_abv (w := wr.drew) (hc2 0 _ rfl) id
      have e1 : ∀ p : Abv NoG wr.drew, p.val.cell? ⟨b2, o2 + j * 3 + 1, none⟩ = some (.int .i64 xv) := cell_abv (w := wr.drew) (hc2 1 _ rfl) id
      have e2 : ∀ p : Abv NoG wr.drew, p.val.cell? ⟨b2, o2 + j * 3 + 2, none⟩ = some (.int .i64 xp) := cell_abv (w := wr.drew) (hc2 2 _ rfl) id
      have a10' := cell_abv (G := NoG) (w := wr.drew) a10 id
      have b10' := cell_abv (G := NoG) (w := wr.drew) b10 id
      clear hc1 hc2 hr1 hr2 hx hb1 hb2 hA1 hB1
      go_wp2
      refine wp_region_plan NoG [(0, false), (1, false), (2, false), (3, false), (4, false), (5, false), (6, false), (7, false), (8, false), (9, false), (10, false)] (by kernel_rfl) (by kernel_rfl) ?_
      repeat (refine plan_take (by simp only [List.getElem?_toArray, List.getElem?_cons_succ, List.getElem?_cons_zero]; exact rfl) ?_; go_big_quiet_step (fail); refine wpQuiet_nil ?_)
      refine plan_end ?_
      go_wp2
      go_roundw
      case rel => exact ⟨j + 1, by omega, by go_num, HBW.out.drew⟩
      case measure => simp [intOf]; omega
    · obtain rfl : j = nq := by omega
      have j1 : ¬ (j : Int) < j := by omega
      have a0 := hA1.cell 0 _ rfl
      have b0 := hB1.cell 0 _ rfl
      have a1 := hA1.cell 1 _ rfl
      have b1 := hB1.cell 1 _ rfl
      have a2 := hA1.cell 2 _ rfl
      have b2 := hB1.cell 2 _ rfl
      have a3 := hA1.cell 3 _ rfl
      have b3 := hB1.cell 3 _ rfl
      have a4 := hA1.cell 4 _ rfl
      have b4 := hB1.cell 4 _ rfl
      have a5 := hA1.cell 5 _ rfl
      have b5 := hB1.cell 5 _ rfl
      have a6 := hA1.cell 6 _ rfl
      have b6 := hB1.cell 6 _ rfl
      have a7 := hA1.cell 7 _ rfl
      have b7 := hB1.cell 7 _ rfl
      have a8 := hA1.cell 8 _ rfl
      have b8 := hB1.cell 8 _ rfl
      have a9 := hA1.cell 9 _ rfl
      have b9 := hB1.cell 9 _ rfl
      have a12 := hA1.cell 12 _ rfl
      have b12 := hB1.cell 12 _ rfl
      have a13 := hA1.cell 13 _ rfl
      have b13 := hB1.cell 13 _ rfl
      have a14 := hA1.cell 14 _ rfl
      have b14 := hB1.cell 14 _ rfl
      have a15 := hA1.cell 15 _ rfl
      have b15 := hB1.cell 15 _ rfl
      have a16 := hA1.cell 16 _ rfl
      have b16 := hB1.cell 16 _ rfl
      have a17 := hA1.cell 17 _ rfl
      have b17 := hB1.cell 17 _ rfl
      have HZ := Lib.hid (Up.trans HW.out HBW.out)
      clear hA1 hB1
      go_wp2
      go_ret
      exact ⟨rfl, HZ.out⟩
end Go.Proofs.Ytoplkglnjgllnaa
