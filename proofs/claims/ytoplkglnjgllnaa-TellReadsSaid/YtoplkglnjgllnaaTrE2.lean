/-
  tell.Same: the first field that differs (10..14).
-/
import Derived.Test.YtoplkglnjgllnaaTrE0
namespace Go.Proofs.Ytoplkglnjgllnaa
open Go.RowKit
set_option linter.unusedVariables false
set_option linter.unusedSimpArgs false

set_option maxRecDepth 100000 in
set_option maxHeartbeats 8000000 in
theorem tsame_10 (kind : Int) (tag : Int) (code : Int) (msize : Int) (iounit : Int) (count : Int) (name : List UInt8) (qdir : Bool) (qver : Int) (qpath : Int) (Aq : Option Addr) (nq cq : Nat) (Ad : Option Addr) (nd cd : Nat) (sdir : Bool) (sver : Int) (spath : Int) (smode : Int) (ssize : Int) (sname : List UInt8) (Aq' : Option Addr) (nq' cq' : Nat) (Ad' : Option Addr) (nd' cd' : Nat) (sdir' : Bool) (sver' : Int) (spath' : Int) (smode' : Int) (ssize' : Int) (sname' : List UInt8) (w : World)  (qs qs' : List QidV) (hq1 : RdR w w.heap.size 3 Aq nq (qs.map qidC)) (hq2 : RdR w w.heap.size 3 Aq' nq' (qs'.map qidC)) (hn : nq ≤ 1048576) (hqe : sameQs qs qs' = false) :
    Calls Try.prog 12 #[.agg #[.int .i64 kind, .int .i64 tag, .int .i64 code, .int .i64 msize, .int .i64 iounit, .int .i64 count, .string (st name), .bool qdir, .int .i64 qver, .int .i64 qpath, .slice Aq nq cq, .slice Ad nd cd, .bool sdir, .int .i64 sver, .int .i64 spath, .int .i64 smode, .int .i64 ssize, .string (st sname)], .agg #[.int .i64 kind, .int .i64 tag, .int .i64 code, .int .i64 msize, .int .i64 iounit, .int .i64 count, .string (st name), .bool qdir, .int .i64 qver, .int .i64 qpath, .slice Aq' nq' cq', .slice Ad' nd' cd', .bool sdir', .int .i64 sver', .int .i64 spath', .int .i64 smode', .int .i64 ssize', .string (st sname')]] w fun e w' => e = .returned (.bool false) ∧ Below w.heap.size w w' := by
  have gQ : Try.prog.eqGuardType Try.prog.depth 23 = false := by kernel_rfl
  have sQ : Try.prog.stoodInHeld 23 = false := by kernel_rfl
  have hA0 := (Blk.new w 29 [.int .i64 kind, .int .i64 tag, .int .i64 code, .int .i64 msize, .int .i64 iounit, .int .i64 count, .string (st name), .bool qdir, .int .i64 qver, .int .i64 qpath, .slice Aq nq cq, .slice Ad nd cd, .bool sdir, .int .i64 sver, .int .i64 spath, .int .i64 smode, .int .i64 ssize, .string (st sname)]).alloc (.cells #[.int .i64 kind, .int .i64 tag, .int .i64 code, .int .i64 msize, .int .i64 iounit, .int .i64 count, .string (st name), .bool qdir, .int .i64 qver, .int .i64 qpath, .slice Aq' nq' cq', .slice Ad' nd' cd', .bool sdir', .int .i64 sver', .int .i64 spath', .int .i64 smode', .int .i64 ssize', .string (st sname')] 29)
  have hB0 := Blk.new (w.alloc (.cells #[.int .i64 kind, .int .i64 tag, .int .i64 code, .int .i64 msize, .int .i64 iounit, .int .i64 count, .string (st name), .bool qdir, .int .i64 qver, .int .i64 qpath, .slice Aq nq cq, .slice Ad nd cd, .bool sdir, .int .i64 sver, .int .i64 spath, .int .i64 smode, .int .i64 ssize, .string (st sname)] 29)) 29 [.int .i64 kind, .int .i64 tag, .int .i64 code, .int .i64 msize, .int .i64 iounit, .int .i64 count, .string (st name), .bool qdir, .int .i64 qver, .int .i64 qpath, .slice Aq' nq' cq', .slice Ad' nd' cd', .bool sdir', .int .i64 sver', .int .i64 spath', .int .i64 smode', .int .i64 ssize', .string (st sname')]
  have hb : Below w.heap.size w ((w.alloc (.cells #[.int .i64 kind, .int .i64 tag, .int .i64 code, .int .i64 msize, .int .i64 iounit, .int .i64 count, .string (st name), .bool qdir, .int .i64 qver, .int .i64 qpath, .slice Aq nq cq, .slice Ad nd cd, .bool sdir, .int .i64 sver, .int .i64 spath, .int .i64 smode, .int .i64 ssize, .string (st sname)] 29)).alloc (.cells #[.int .i64 kind, .int .i64 tag, .int .i64 code, .int .i64 msize, .int .i64 iounit, .int .i64 count, .string (st name), .bool qdir, .int .i64 qver, .int .i64 qpath, .slice Aq' nq' cq', .slice Ad' nd' cd', .bool sdir', .int .i64 sver', .int .i64 spath', .int .i64 smode', .int .i64 ssize', .string (st sname')] 29)) := ((Below.refl _ _).alloc (Nat.le_refl _) _).alloc (by simp) _
  rw [show (w.alloc (.cells #[.int .i64 kind, .int .i64 tag, .int .i64 code, .int .i64 msize, .int .i64 iounit, .int .i64 count, .string (st name), .bool qdir, .int .i64 qver, .int .i64 qpath, .slice Aq nq cq, .slice Ad nd cd, .bool sdir, .int .i64 sver, .int .i64 spath, .int .i64 smode, .int .i64 ssize, .string (st sname)] 29)).heap.size = w.heap.size + 1 by simp] at hB0
  go_enter Try.func12, Try.ntmps12
  have HQ1 := Lib.hid hq1
  have HQ2 := Lib.hid hq2
  clear hq1 hq2
  have HA := Lib.hid hA0
  have HB := Lib.hid hB0
  have HW := Lib.hid hb
  clear hA0 hB0 hb
  go_wp2_with fail
  refine (equalQs_any Aq Aq' nq nq' cq cq' qs qs' _ (HQ1.out.up HW.out) (HQ2.out.up HW.out) hn).mono ?_
  rintro e w1 ⟨rfl, hb1⟩
  rw [hqe]
  have HZ := Lib.hid (Up.trans HW.out hb1)
  clear hb1 hqe
  go_wp2
  go_ret
  exact ⟨rfl, HZ.out⟩
set_option maxRecDepth 100000 in
set_option maxHeartbeats 8000000 in
theorem tsame_11 (kind : Int) (tag : Int) (code : Int) (msize : Int) (iounit : Int) (count : Int) (name : List UInt8) (qdir : Bool) (qver : Int) (qpath : Int) (Aq : Option Addr) (nq cq : Nat) (Ad : Option Addr) (nd cd : Nat) (sdir : Bool) (sver : Int) (spath : Int) (smode : Int) (ssize : Int) (sname : List UInt8) (Aq' : Option Addr) (nq' cq' : Nat) (Ad' : Option Addr) (nd' cd' : Nat) (sdir' : Bool) (sver' : Int) (spath' : Int) (smode' : Int) (ssize' : Int) (sname' : List UInt8) (w : World)  (qs qs' : List QidV) (hq1 : RdR w w.heap.size 3 Aq nq (qs.map qidC)) (hq2 : RdR w w.heap.size 3 Aq' nq' (qs'.map qidC)) (hn : nq ≤ 1048576) (hqe : sameQs qs qs' = true) (ds ds' : List UInt8) (hd1 : RdB w w.heap.size Ad nd ds) (hd2 : RdB w w.heap.size Ad' nd' ds') (hde : (ds == ds') = false) :
    Calls Try.prog 12 #[.agg #[.int .i64 kind, .int .i64 tag, .int .i64 code, .int .i64 msize, .int .i64 iounit, .int .i64 count, .string (st name), .bool qdir, .int .i64 qver, .int .i64 qpath, .slice Aq nq cq, .slice Ad nd cd, .bool sdir, .int .i64 sver, .int .i64 spath, .int .i64 smode, .int .i64 ssize, .string (st sname)], .agg #[.int .i64 kind, .int .i64 tag, .int .i64 code, .int .i64 msize, .int .i64 iounit, .int .i64 count, .string (st name), .bool qdir, .int .i64 qver, .int .i64 qpath, .slice Aq' nq' cq', .slice Ad' nd' cd', .bool sdir', .int .i64 sver', .int .i64 spath', .int .i64 smode', .int .i64 ssize', .string (st sname')]] w fun e w' => e = .returned (.bool false) ∧ Below w.heap.size w w' := by
  have gQ : Try.prog.eqGuardType Try.prog.depth 23 = false := by kernel_rfl
  have sQ : Try.prog.stoodInHeld 23 = false := by kernel_rfl
  have hA0 := (Blk.new w 29 [.int .i64 kind, .int .i64 tag, .int .i64 code, .int .i64 msize, .int .i64 iounit, .int .i64 count, .string (st name), .bool qdir, .int .i64 qver, .int .i64 qpath, .slice Aq nq cq, .slice Ad nd cd, .bool sdir, .int .i64 sver, .int .i64 spath, .int .i64 smode, .int .i64 ssize, .string (st sname)]).alloc (.cells #[.int .i64 kind, .int .i64 tag, .int .i64 code, .int .i64 msize, .int .i64 iounit, .int .i64 count, .string (st name), .bool qdir, .int .i64 qver, .int .i64 qpath, .slice Aq' nq' cq', .slice Ad' nd' cd', .bool sdir', .int .i64 sver', .int .i64 spath', .int .i64 smode', .int .i64 ssize', .string (st sname')] 29)
  have hB0 := Blk.new (w.alloc (.cells #[.int .i64 kind, .int .i64 tag, .int .i64 code, .int .i64 msize, .int .i64 iounit, .int .i64 count, .string (st name), .bool qdir, .int .i64 qver, .int .i64 qpath, .slice Aq nq cq, .slice Ad nd cd, .bool sdir, .int .i64 sver, .int .i64 spath, .int .i64 smode, .int .i64 ssize, .string (st sname)] 29)) 29 [.int .i64 kind, .int .i64 tag, .int .i64 code, .int .i64 msize, .int .i64 iounit, .int .i64 count, .string (st name), .bool qdir, .int .i64 qver, .int .i64 qpath, .slice Aq' nq' cq', .slice Ad' nd' cd', .bool sdir', .int .i64 sver', .int .i64 spath', .int .i64 smode', .int .i64 ssize', .string (st sname')]
  have hb : Below w.heap.size w ((w.alloc (.cells #[.int .i64 kind, .int .i64 tag, .int .i64 code, .int .i64 msize, .int .i64 iounit, .int .i64 count, .string (st name), .bool qdir, .int .i64 qver, .int .i64 qpath, .slice Aq nq cq, .slice Ad nd cd, .bool sdir, .int .i64 sver, .int .i64 spath, .int .i64 smode, .int .i64 ssize, .string (st sname)] 29)).alloc (.cells #[.int .i64 kind, .int .i64 tag, .int .i64 code, .int .i64 msize, .int .i64 iounit, .int .i64 count, .string (st name), .bool qdir, .int .i64 qver, .int .i64 qpath, .slice Aq' nq' cq', .slice Ad' nd' cd', .bool sdir', .int .i64 sver', .int .i64 spath', .int .i64 smode', .int .i64 ssize', .string (st sname')] 29)) := ((Below.refl _ _).alloc (Nat.le_refl _) _).alloc (by simp) _
  rw [show (w.alloc (.cells #[.int .i64 kind, .int .i64 tag, .int .i64 code, .int .i64 msize, .int .i64 iounit, .int .i64 count, .string (st name), .bool qdir, .int .i64 qver, .int .i64 qpath, .slice Aq nq cq, .slice Ad nd cd, .bool sdir, .int .i64 sver, .int .i64 spath, .int .i64 smode, .int .i64 ssize, .string (st sname)] 29)).heap.size = w.heap.size + 1 by simp] at hB0
  go_enter Try.func12, Try.ntmps12
  have HQ1 := Lib.hid hq1
  have HQ2 := Lib.hid hq2
  have HD1 := Lib.hid hd1
  have HD2 := Lib.hid hd2
  clear hd1 hd2
  clear hq1 hq2
  have HA := Lib.hid hA0
  have HB := Lib.hid hB0
  have HW := Lib.hid hb
  clear hA0 hB0 hb
  go_wp2_with fail
  refine (equalQs_any Aq Aq' nq nq' cq cq' qs qs' _ (HQ1.out.up HW.out) (HQ2.out.up HW.out) hn).mono ?_
  rintro e w1 ⟨rfl, hb1⟩
  rw [hqe]
  have hX := HA.out.up hb1
  have hY := HB.out.up hb1
  have x11 := hX.cell 11 _ rfl
  have y11 := hY.cell 11 _ rfl
  have HX := Lib.hid hX
  have HY := Lib.hid hY
  have HZ := Lib.hid (Up.trans HW.out hb1)
  clear hb1 hqe hX hY
  go_wp2_with fail
  refine (bytesEqual_any Ad Ad' nd nd' cd cd' ds ds' _ (HD1.out.up HZ.out) (HD2.out.up HZ.out)).mono ?_
  rintro e w2 ⟨rfl, hb2⟩
  rw [hde]
  have HZ2 := Lib.hid (Up.trans HZ.out hb2)
  clear hb2 hde x11 y11
  go_wp2
  go_ret
  exact ⟨rfl, HZ2.out⟩
set_option maxRecDepth 100000 in
set_option maxHeartbeats 8000000 in
theorem tsame_12 (kind : Int) (tag : Int) (code : Int) (msize : Int) (iounit : Int) (count : Int) (name : List UInt8) (qdir : Bool) (qver : Int) (qpath : Int) (Aq : Option Addr) (nq cq : Nat) (Ad : Option Addr) (nd cd : Nat) (sdir : Bool) (sver : Int) (spath : Int) (smode : Int) (ssize : Int) (sname : List UInt8) (Aq' : Option Addr) (nq' cq' : Nat) (Ad' : Option Addr) (nd' cd' : Nat) (sdir' : Bool) (sver' : Int) (spath' : Int) (smode' : Int) (ssize' : Int) (sname' : List UInt8) (w : World) (hd : ¬ sdir = sdir') (qs qs' : List QidV) (hq1 : RdR w w.heap.size 3 Aq nq (qs.map qidC)) (hq2 : RdR w w.heap.size 3 Aq' nq' (qs'.map qidC)) (hn : nq ≤ 1048576) (hqe : sameQs qs qs' = true) (ds ds' : List UInt8) (hd1 : RdB w w.heap.size Ad nd ds) (hd2 : RdB w w.heap.size Ad' nd' ds') (hde : (ds == ds') = true) :
    Calls Try.prog 12 #[.agg #[.int .i64 kind, .int .i64 tag, .int .i64 code, .int .i64 msize, .int .i64 iounit, .int .i64 count, .string (st name), .bool qdir, .int .i64 qver, .int .i64 qpath, .slice Aq nq cq, .slice Ad nd cd, .bool sdir, .int .i64 sver, .int .i64 spath, .int .i64 smode, .int .i64 ssize, .string (st sname)], .agg #[.int .i64 kind, .int .i64 tag, .int .i64 code, .int .i64 msize, .int .i64 iounit, .int .i64 count, .string (st name), .bool qdir, .int .i64 qver, .int .i64 qpath, .slice Aq' nq' cq', .slice Ad' nd' cd', .bool sdir', .int .i64 sver', .int .i64 spath', .int .i64 smode', .int .i64 ssize', .string (st sname')]] w fun e w' => e = .returned (.bool false) ∧ Below w.heap.size w w' := by
  have gQ : Try.prog.eqGuardType Try.prog.depth 23 = false := by kernel_rfl
  have sQ : Try.prog.stoodInHeld 23 = false := by kernel_rfl
  have gS : Try.prog.eqGuardType Try.prog.depth 27 = false := by kernel_rfl
  have sS : Try.prog.stoodInHeld 27 = false := by kernel_rfl
  have hA0 := (Blk.new w 29 [.int .i64 kind, .int .i64 tag, .int .i64 code, .int .i64 msize, .int .i64 iounit, .int .i64 count, .string (st name), .bool qdir, .int .i64 qver, .int .i64 qpath, .slice Aq nq cq, .slice Ad nd cd, .bool sdir, .int .i64 sver, .int .i64 spath, .int .i64 smode, .int .i64 ssize, .string (st sname)]).alloc (.cells #[.int .i64 kind, .int .i64 tag, .int .i64 code, .int .i64 msize, .int .i64 iounit, .int .i64 count, .string (st name), .bool qdir, .int .i64 qver, .int .i64 qpath, .slice Aq' nq' cq', .slice Ad' nd' cd', .bool sdir', .int .i64 sver', .int .i64 spath', .int .i64 smode', .int .i64 ssize', .string (st sname')] 29)
  have hB0 := Blk.new (w.alloc (.cells #[.int .i64 kind, .int .i64 tag, .int .i64 code, .int .i64 msize, .int .i64 iounit, .int .i64 count, .string (st name), .bool qdir, .int .i64 qver, .int .i64 qpath, .slice Aq nq cq, .slice Ad nd cd, .bool sdir, .int .i64 sver, .int .i64 spath, .int .i64 smode, .int .i64 ssize, .string (st sname)] 29)) 29 [.int .i64 kind, .int .i64 tag, .int .i64 code, .int .i64 msize, .int .i64 iounit, .int .i64 count, .string (st name), .bool qdir, .int .i64 qver, .int .i64 qpath, .slice Aq' nq' cq', .slice Ad' nd' cd', .bool sdir', .int .i64 sver', .int .i64 spath', .int .i64 smode', .int .i64 ssize', .string (st sname')]
  have hb : Below w.heap.size w ((w.alloc (.cells #[.int .i64 kind, .int .i64 tag, .int .i64 code, .int .i64 msize, .int .i64 iounit, .int .i64 count, .string (st name), .bool qdir, .int .i64 qver, .int .i64 qpath, .slice Aq nq cq, .slice Ad nd cd, .bool sdir, .int .i64 sver, .int .i64 spath, .int .i64 smode, .int .i64 ssize, .string (st sname)] 29)).alloc (.cells #[.int .i64 kind, .int .i64 tag, .int .i64 code, .int .i64 msize, .int .i64 iounit, .int .i64 count, .string (st name), .bool qdir, .int .i64 qver, .int .i64 qpath, .slice Aq' nq' cq', .slice Ad' nd' cd', .bool sdir', .int .i64 sver', .int .i64 spath', .int .i64 smode', .int .i64 ssize', .string (st sname')] 29)) := ((Below.refl _ _).alloc (Nat.le_refl _) _).alloc (by simp) _
  rw [show (w.alloc (.cells #[.int .i64 kind, .int .i64 tag, .int .i64 code, .int .i64 msize, .int .i64 iounit, .int .i64 count, .string (st name), .bool qdir, .int .i64 qver, .int .i64 qpath, .slice Aq nq cq, .slice Ad nd cd, .bool sdir, .int .i64 sver, .int .i64 spath, .int .i64 smode, .int .i64 ssize, .string (st sname)] 29)).heap.size = w.heap.size + 1 by simp] at hB0
  go_enter Try.func12, Try.ntmps12
  have HQ1 := Lib.hid hq1
  have HQ2 := Lib.hid hq2
  have HD1 := Lib.hid hd1
  have HD2 := Lib.hid hd2
  clear hd1 hd2
  clear hq1 hq2
  have HA := Lib.hid hA0
  have HB := Lib.hid hB0
  have HW := Lib.hid hb
  clear hA0 hB0 hb
  go_wp2_with fail
  refine (equalQs_any Aq Aq' nq nq' cq cq' qs qs' _ (HQ1.out.up HW.out) (HQ2.out.up HW.out) hn).mono ?_
  rintro e w1 ⟨rfl, hb1⟩
  rw [hqe]
  have hX := HA.out.up hb1
  have hY := HB.out.up hb1
  have x11 := hX.cell 11 _ rfl
  have y11 := hY.cell 11 _ rfl
  have HX := Lib.hid hX
  have HY := Lib.hid hY
  have HZ := Lib.hid (Up.trans HW.out hb1)
  clear hb1 hqe hX hY
  go_wp2_with fail
  refine (bytesEqual_any Ad Ad' nd nd' cd cd' ds ds' _ (HD1.out.up HZ.out) (HD2.out.up HZ.out)).mono ?_
  rintro e w2 ⟨rfl, hb2⟩
  rw [hde]
  have HZ2 := Lib.hid (Up.trans HZ.out hb2)
  have hX := HX.out.up hb2
  have hY := HY.out.up hb2
  have x12 := hX.cell 12 _ rfl
  have y12 := hY.cell 12 _ rfl
  have x13 := hX.cell 13 _ rfl
  have y13 := hY.cell 13 _ rfl
  have x14 := hX.cell 14 _ rfl
  have y14 := hY.cell 14 _ rfl
  have x15 := hX.cell 15 _ rfl
  have y15 := hY.cell 15 _ rfl
  have x16 := hX.cell 16 _ rfl
  have y16 := hY.cell 16 _ rfl
  have x17 := hX.cell 17 _ rfl
  have y17 := hY.cell 17 _ rfl
  clear hb2 hde x11 y11 hX hY
  go_wp2
  go_ret
  exact ⟨rfl, HZ2.out⟩
set_option maxRecDepth 100000 in
set_option maxHeartbeats 8000000 in
theorem tsame_13 (kind : Int) (tag : Int) (code : Int) (msize : Int) (iounit : Int) (count : Int) (name : List UInt8) (qdir : Bool) (qver : Int) (qpath : Int) (Aq : Option Addr) (nq cq : Nat) (Ad : Option Addr) (nd cd : Nat) (sdir : Bool) (sver : Int) (spath : Int) (smode : Int) (ssize : Int) (sname : List UInt8) (Aq' : Option Addr) (nq' cq' : Nat) (Ad' : Option Addr) (nd' cd' : Nat) (sver' : Int) (spath' : Int) (smode' : Int) (ssize' : Int) (sname' : List UInt8) (w : World) (hd : ¬ sver = sver') (qs qs' : List QidV) (hq1 : RdR w w.heap.size 3 Aq nq (qs.map qidC)) (hq2 : RdR w w.heap.size 3 Aq' nq' (qs'.map qidC)) (hn : nq ≤ 1048576) (hqe : sameQs qs qs' = true) (ds ds' : List UInt8) (hd1 : RdB w w.heap.size Ad nd ds) (hd2 : RdB w w.heap.size Ad' nd' ds') (hde : (ds == ds') = true) :
    Calls Try.prog 12 #[.agg #[.int .i64 kind, .int .i64 tag, .int .i64 code, .int .i64 msize, .int .i64 iounit, .int .i64 count, .string (st name), .bool qdir, .int .i64 qver, .int .i64 qpath, .slice Aq nq cq, .slice Ad nd cd, .bool sdir, .int .i64 sver, .int .i64 spath, .int .i64 smode, .int .i64 ssize, .string (st sname)], .agg #[.int .i64 kind, .int .i64 tag, .int .i64 code, .int .i64 msize, .int .i64 iounit, .int .i64 count, .string (st name), .bool qdir, .int .i64 qver, .int .i64 qpath, .slice Aq' nq' cq', .slice Ad' nd' cd', .bool sdir, .int .i64 sver', .int .i64 spath', .int .i64 smode', .int .i64 ssize', .string (st sname')]] w fun e w' => e = .returned (.bool false) ∧ Below w.heap.size w w' := by
  have gQ : Try.prog.eqGuardType Try.prog.depth 23 = false := by kernel_rfl
  have sQ : Try.prog.stoodInHeld 23 = false := by kernel_rfl
  have gS : Try.prog.eqGuardType Try.prog.depth 27 = false := by kernel_rfl
  have sS : Try.prog.stoodInHeld 27 = false := by kernel_rfl
  have hA0 := (Blk.new w 29 [.int .i64 kind, .int .i64 tag, .int .i64 code, .int .i64 msize, .int .i64 iounit, .int .i64 count, .string (st name), .bool qdir, .int .i64 qver, .int .i64 qpath, .slice Aq nq cq, .slice Ad nd cd, .bool sdir, .int .i64 sver, .int .i64 spath, .int .i64 smode, .int .i64 ssize, .string (st sname)]).alloc (.cells #[.int .i64 kind, .int .i64 tag, .int .i64 code, .int .i64 msize, .int .i64 iounit, .int .i64 count, .string (st name), .bool qdir, .int .i64 qver, .int .i64 qpath, .slice Aq' nq' cq', .slice Ad' nd' cd', .bool sdir, .int .i64 sver', .int .i64 spath', .int .i64 smode', .int .i64 ssize', .string (st sname')] 29)
  have hB0 := Blk.new (w.alloc (.cells #[.int .i64 kind, .int .i64 tag, .int .i64 code, .int .i64 msize, .int .i64 iounit, .int .i64 count, .string (st name), .bool qdir, .int .i64 qver, .int .i64 qpath, .slice Aq nq cq, .slice Ad nd cd, .bool sdir, .int .i64 sver, .int .i64 spath, .int .i64 smode, .int .i64 ssize, .string (st sname)] 29)) 29 [.int .i64 kind, .int .i64 tag, .int .i64 code, .int .i64 msize, .int .i64 iounit, .int .i64 count, .string (st name), .bool qdir, .int .i64 qver, .int .i64 qpath, .slice Aq' nq' cq', .slice Ad' nd' cd', .bool sdir, .int .i64 sver', .int .i64 spath', .int .i64 smode', .int .i64 ssize', .string (st sname')]
  have hb : Below w.heap.size w ((w.alloc (.cells #[.int .i64 kind, .int .i64 tag, .int .i64 code, .int .i64 msize, .int .i64 iounit, .int .i64 count, .string (st name), .bool qdir, .int .i64 qver, .int .i64 qpath, .slice Aq nq cq, .slice Ad nd cd, .bool sdir, .int .i64 sver, .int .i64 spath, .int .i64 smode, .int .i64 ssize, .string (st sname)] 29)).alloc (.cells #[.int .i64 kind, .int .i64 tag, .int .i64 code, .int .i64 msize, .int .i64 iounit, .int .i64 count, .string (st name), .bool qdir, .int .i64 qver, .int .i64 qpath, .slice Aq' nq' cq', .slice Ad' nd' cd', .bool sdir, .int .i64 sver', .int .i64 spath', .int .i64 smode', .int .i64 ssize', .string (st sname')] 29)) := ((Below.refl _ _).alloc (Nat.le_refl _) _).alloc (by simp) _
  rw [show (w.alloc (.cells #[.int .i64 kind, .int .i64 tag, .int .i64 code, .int .i64 msize, .int .i64 iounit, .int .i64 count, .string (st name), .bool qdir, .int .i64 qver, .int .i64 qpath, .slice Aq nq cq, .slice Ad nd cd, .bool sdir, .int .i64 sver, .int .i64 spath, .int .i64 smode, .int .i64 ssize, .string (st sname)] 29)).heap.size = w.heap.size + 1 by simp] at hB0
  go_enter Try.func12, Try.ntmps12
  have HQ1 := Lib.hid hq1
  have HQ2 := Lib.hid hq2
  have HD1 := Lib.hid hd1
  have HD2 := Lib.hid hd2
  clear hd1 hd2
  clear hq1 hq2
  have HA := Lib.hid hA0
  have HB := Lib.hid hB0
  have HW := Lib.hid hb
  clear hA0 hB0 hb
  go_wp2_with fail
  refine (equalQs_any Aq Aq' nq nq' cq cq' qs qs' _ (HQ1.out.up HW.out) (HQ2.out.up HW.out) hn).mono ?_
  rintro e w1 ⟨rfl, hb1⟩
  rw [hqe]
  have hX := HA.out.up hb1
  have hY := HB.out.up hb1
  have x11 := hX.cell 11 _ rfl
  have y11 := hY.cell 11 _ rfl
  have HX := Lib.hid hX
  have HY := Lib.hid hY
  have HZ := Lib.hid (Up.trans HW.out hb1)
  clear hb1 hqe hX hY
  go_wp2_with fail
  refine (bytesEqual_any Ad Ad' nd nd' cd cd' ds ds' _ (HD1.out.up HZ.out) (HD2.out.up HZ.out)).mono ?_
  rintro e w2 ⟨rfl, hb2⟩
  rw [hde]
  have HZ2 := Lib.hid (Up.trans HZ.out hb2)
  have hX := HX.out.up hb2
  have hY := HY.out.up hb2
  have x12 := hX.cell 12 _ rfl
  have y12 := hY.cell 12 _ rfl
  have x13 := hX.cell 13 _ rfl
  have y13 := hY.cell 13 _ rfl
  have x14 := hX.cell 14 _ rfl
  have y14 := hY.cell 14 _ rfl
  have x15 := hX.cell 15 _ rfl
  have y15 := hY.cell 15 _ rfl
  have x16 := hX.cell 16 _ rfl
  have y16 := hY.cell 16 _ rfl
  have x17 := hX.cell 17 _ rfl
  have y17 := hY.cell 17 _ rfl
  clear hb2 hde x11 y11 hX hY
  go_wp2
  go_ret
  exact ⟨rfl, HZ2.out⟩
set_option maxRecDepth 100000 in
set_option maxHeartbeats 8000000 in
theorem tsame_14 (kind : Int) (tag : Int) (code : Int) (msize : Int) (iounit : Int) (count : Int) (name : List UInt8) (qdir : Bool) (qver : Int) (qpath : Int) (Aq : Option Addr) (nq cq : Nat) (Ad : Option Addr) (nd cd : Nat) (sdir : Bool) (sver : Int) (spath : Int) (smode : Int) (ssize : Int) (sname : List UInt8) (Aq' : Option Addr) (nq' cq' : Nat) (Ad' : Option Addr) (nd' cd' : Nat) (spath' : Int) (smode' : Int) (ssize' : Int) (sname' : List UInt8) (w : World) (hd : ¬ spath = spath') (qs qs' : List QidV) (hq1 : RdR w w.heap.size 3 Aq nq (qs.map qidC)) (hq2 : RdR w w.heap.size 3 Aq' nq' (qs'.map qidC)) (hn : nq ≤ 1048576) (hqe : sameQs qs qs' = true) (ds ds' : List UInt8) (hd1 : RdB w w.heap.size Ad nd ds) (hd2 : RdB w w.heap.size Ad' nd' ds') (hde : (ds == ds') = true) :
    Calls Try.prog 12 #[.agg #[.int .i64 kind, .int .i64 tag, .int .i64 code, .int .i64 msize, .int .i64 iounit, .int .i64 count, .string (st name), .bool qdir, .int .i64 qver, .int .i64 qpath, .slice Aq nq cq, .slice Ad nd cd, .bool sdir, .int .i64 sver, .int .i64 spath, .int .i64 smode, .int .i64 ssize, .string (st sname)], .agg #[.int .i64 kind, .int .i64 tag, .int .i64 code, .int .i64 msize, .int .i64 iounit, .int .i64 count, .string (st name), .bool qdir, .int .i64 qver, .int .i64 qpath, .slice Aq' nq' cq', .slice Ad' nd' cd', .bool sdir, .int .i64 sver, .int .i64 spath', .int .i64 smode', .int .i64 ssize', .string (st sname')]] w fun e w' => e = .returned (.bool false) ∧ Below w.heap.size w w' := by
  have gQ : Try.prog.eqGuardType Try.prog.depth 23 = false := by kernel_rfl
  have sQ : Try.prog.stoodInHeld 23 = false := by kernel_rfl
  have gS : Try.prog.eqGuardType Try.prog.depth 27 = false := by kernel_rfl
  have sS : Try.prog.stoodInHeld 27 = false := by kernel_rfl
  have hA0 := (Blk.new w 29 [.int .i64 kind, .int .i64 tag, .int .i64 code, .int .i64 msize, .int .i64 iounit, .int .i64 count, .string (st name), .bool qdir, .int .i64 qver, .int .i64 qpath, .slice Aq nq cq, .slice Ad nd cd, .bool sdir, .int .i64 sver, .int .i64 spath, .int .i64 smode, .int .i64 ssize, .string (st sname)]).alloc (.cells #[.int .i64 kind, .int .i64 tag, .int .i64 code, .int .i64 msize, .int .i64 iounit, .int .i64 count, .string (st name), .bool qdir, .int .i64 qver, .int .i64 qpath, .slice Aq' nq' cq', .slice Ad' nd' cd', .bool sdir, .int .i64 sver, .int .i64 spath', .int .i64 smode', .int .i64 ssize', .string (st sname')] 29)
  have hB0 := Blk.new (w.alloc (.cells #[.int .i64 kind, .int .i64 tag, .int .i64 code, .int .i64 msize, .int .i64 iounit, .int .i64 count, .string (st name), .bool qdir, .int .i64 qver, .int .i64 qpath, .slice Aq nq cq, .slice Ad nd cd, .bool sdir, .int .i64 sver, .int .i64 spath, .int .i64 smode, .int .i64 ssize, .string (st sname)] 29)) 29 [.int .i64 kind, .int .i64 tag, .int .i64 code, .int .i64 msize, .int .i64 iounit, .int .i64 count, .string (st name), .bool qdir, .int .i64 qver, .int .i64 qpath, .slice Aq' nq' cq', .slice Ad' nd' cd', .bool sdir, .int .i64 sver, .int .i64 spath', .int .i64 smode', .int .i64 ssize', .string (st sname')]
  have hb : Below w.heap.size w ((w.alloc (.cells #[.int .i64 kind, .int .i64 tag, .int .i64 code, .int .i64 msize, .int .i64 iounit, .int .i64 count, .string (st name), .bool qdir, .int .i64 qver, .int .i64 qpath, .slice Aq nq cq, .slice Ad nd cd, .bool sdir, .int .i64 sver, .int .i64 spath, .int .i64 smode, .int .i64 ssize, .string (st sname)] 29)).alloc (.cells #[.int .i64 kind, .int .i64 tag, .int .i64 code, .int .i64 msize, .int .i64 iounit, .int .i64 count, .string (st name), .bool qdir, .int .i64 qver, .int .i64 qpath, .slice Aq' nq' cq', .slice Ad' nd' cd', .bool sdir, .int .i64 sver, .int .i64 spath', .int .i64 smode', .int .i64 ssize', .string (st sname')] 29)) := ((Below.refl _ _).alloc (Nat.le_refl _) _).alloc (by simp) _
  rw [show (w.alloc (.cells #[.int .i64 kind, .int .i64 tag, .int .i64 code, .int .i64 msize, .int .i64 iounit, .int .i64 count, .string (st name), .bool qdir, .int .i64 qver, .int .i64 qpath, .slice Aq nq cq, .slice Ad nd cd, .bool sdir, .int .i64 sver, .int .i64 spath, .int .i64 smode, .int .i64 ssize, .string (st sname)] 29)).heap.size = w.heap.size + 1 by simp] at hB0
  go_enter Try.func12, Try.ntmps12
  have HQ1 := Lib.hid hq1
  have HQ2 := Lib.hid hq2
  have HD1 := Lib.hid hd1
  have HD2 := Lib.hid hd2
  clear hd1 hd2
  clear hq1 hq2
  have HA := Lib.hid hA0
  have HB := Lib.hid hB0
  have HW := Lib.hid hb
  clear hA0 hB0 hb
  go_wp2_with fail
  refine (equalQs_any Aq Aq' nq nq' cq cq' qs qs' _ (HQ1.out.up HW.out) (HQ2.out.up HW.out) hn).mono ?_
  rintro e w1 ⟨rfl, hb1⟩
  rw [hqe]
  have hX := HA.out.up hb1
  have hY := HB.out.up hb1
  have x11 := hX.cell 11 _ rfl
  have y11 := hY.cell 11 _ rfl
  have HX := Lib.hid hX
  have HY := Lib.hid hY
  have HZ := Lib.hid (Up.trans HW.out hb1)
  clear hb1 hqe hX hY
  go_wp2_with fail
  refine (bytesEqual_any Ad Ad' nd nd' cd cd' ds ds' _ (HD1.out.up HZ.out) (HD2.out.up HZ.out)).mono ?_
  rintro e w2 ⟨rfl, hb2⟩
  rw [hde]
  have HZ2 := Lib.hid (Up.trans HZ.out hb2)
  have hX := HX.out.up hb2
  have hY := HY.out.up hb2
  have x12 := hX.cell 12 _ rfl
  have y12 := hY.cell 12 _ rfl
  have x13 := hX.cell 13 _ rfl
  have y13 := hY.cell 13 _ rfl
  have x14 := hX.cell 14 _ rfl
  have y14 := hY.cell 14 _ rfl
  have x15 := hX.cell 15 _ rfl
  have y15 := hY.cell 15 _ rfl
  have x16 := hX.cell 16 _ rfl
  have y16 := hY.cell 16 _ rfl
  have x17 := hX.cell 17 _ rfl
  have y17 := hY.cell 17 _ rfl
  clear hb2 hde x11 y11 hX hY
  go_wp2
  go_ret
  exact ⟨rfl, HZ2.out⟩
end Go.Proofs.Ytoplkglnjgllnaa
