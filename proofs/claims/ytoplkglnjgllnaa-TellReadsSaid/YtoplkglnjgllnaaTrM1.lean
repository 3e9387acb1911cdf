/-
  ref18.May: the first condition that holds.
-/
import Derived.Test.YtoplkglnjgllnaaTrP
namespace Go.Proofs.Ytoplkglnjgllnaa
open Go.RowKit
set_option linter.unusedVariables false
set_option linter.unusedSimpArgs false

set_option maxRecDepth 100000 in
set_option maxHeartbeats 8000000 in
theorem rmay_c0 (kind tag code msize iounit count : Int) (name : List UInt8) (qdir : Bool) (qver qpath : Int) (qids : List QidV) (data : List UInt8) (sdir : Bool) (sver spath smode ssize : Int) (sname : List UInt8) (Aq : Option Addr) (nq cq : Nat) (Ad : Option Addr) (nd cd : Nat) (w : World) (hrd : TellRd w ⟨kind, tag, code, msize, iounit, count, name, ⟨qdir, qver, qpath⟩, qids, data, ⟨sdir, sver, spath⟩, smode, ssize, sname⟩ Aq nq cq Ad nd cd) (ha0 : sameT (ownT ⟨kind, tag, code, msize, iounit, count, name, ⟨qdir, qver, qpath⟩, qids, data, ⟨sdir, sver, spath⟩, smode, ssize, sname⟩) ⟨kind, tag, code, msize, iounit, count, name, ⟨qdir, qver, qpath⟩, qids, data, ⟨sdir, sver, spath⟩, smode, ssize, sname⟩ = false) :
    Calls Try.prog 16 #[.agg #[.int .i64 kind, .int .i64 tag, .int .i64 code, .int .i64 msize, .int .i64 iounit, .int .i64 count, .string (st name), .bool qdir, .int .i64 qver, .int .i64 qpath, .slice Aq nq cq, .slice Ad nd cd, .bool sdir, .int .i64 sver, .int .i64 spath, .int .i64 smode, .int .i64 ssize, .string (st sname)]] w fun e w' => e = .returned (.bool false) ∧ Below w.heap.size w w' := by
  have hA0 := Blk.new w 29 [.int .i64 kind, .int .i64 tag, .int .i64 code, .int .i64 msize, .int .i64 iounit, .int .i64 count, .string (st name), .bool qdir, .int .i64 qver, .int .i64 qpath, .slice Aq nq cq, .slice Ad nd cd, .bool sdir, .int .i64 sver, .int .i64 spath, .int .i64 smode, .int .i64 ssize, .string (st sname)]
  obtain ⟨W, hW⟩ : ∃ W, W = w.alloc (.cells #[.int .i64 kind, .int .i64 tag, .int .i64 code, .int .i64 msize, .int .i64 iounit, .int .i64 count, .string (st name), .bool qdir, .int .i64 qver, .int .i64 qpath, .slice Aq nq cq, .slice Ad nd cd, .bool sdir, .int .i64 sver, .int .i64 spath, .int .i64 smode, .int .i64 ssize, .string (st sname)] 29) := ⟨_, rfl⟩
  have hW' : W = w.alloc (.cells [.int .i64 kind, .int .i64 tag, .int .i64 code, .int .i64 msize, .int .i64 iounit, .int .i64 count, .string (st name), .bool qdir, .int .i64 qver, .int .i64 qpath, .slice Aq nq cq, .slice Ad nd cd, .bool sdir, .int .i64 sver, .int .i64 spath, .int .i64 smode, .int .i64 ssize, .string (st sname)].toArray 29) := hW
  rw [← hW'] at hA0
  have hb0 : Below w.heap.size w W := by rw [hW]; exact (Below.refl _ _).alloc (Nat.le_refl _) _
  obtain ⟨gT, hgT⟩ : ∃ x, x = w.heap.size := ⟨_, rfl⟩
  rw [← hgT] at hA0
  have HA := Lib.hid hA0
  have HB := Lib.hid hb0
  have HRD := Lib.hid (hrd.up hb0)
  have HA0 := Lib.hid ha0
  clear hA0 hb0 hrd ha0
  go_enter Try.func16, Try.ntmps16
  go_upto_region 1 with fail
  rw [← hW, ← hgT]
  clear hW hW' hgT
  go_wp2_with (refine wpList_loadBlk rfl (.tmp 1) rfl rfl (by kernel_rfl) tellT_agg HA.out ?_; simp only [Act.put, List.setIfInBounds_toArray, List.set_cons_succ, List.set_cons_zero])
  refine (own18_any kind tag code msize iounit count name qdir qver qpath qids data sdir sver spath smode ssize sname Aq nq cq Ad nd cd _).mono ?_
  rintro e w1 ⟨x, Xq, mq, dq, Xd, md, dd, hx, rfl, hXq, hXd, hb1⟩
  have hrx := own_rd hx.out hXq.out hXd.out (HRD.out.up hb1)
  have hXa : Blk (w1.alloc (.cells #[.int .i64 0, .int .i64 0, .int .i64 0, .int .i64 0, .int .i64 0, .int .i64 0, .string ⟨#[]⟩, .bool false, .int .i64 0, .int .i64 0, .slice none 0 0, .slice none 0 0, .bool false, .int .i64 0, .int .i64 0, .int .i64 0, .int .i64 0, .string ⟨#[]⟩] 29)) w1.heap.size 29 [.int .i64 0, .int .i64 0, .int .i64 0, .int .i64 0, .int .i64 0, .int .i64 0, .string ByteArray.empty, .bool false, .int .i64 0, .int .i64 0, .slice none 0 0, .slice none 0 0, .bool false, .int .i64 0, .int .i64 0, .int .i64 0, .int .i64 0, .string ByteArray.empty] := Blk.new w1 29 [.int .i64 0, .int .i64 0, .int .i64 0, .int .i64 0, .int .i64 0, .int .i64 0, .string ByteArray.empty, .bool false, .int .i64 0, .int .i64 0, .slice none 0 0, .slice none 0 0, .bool false, .int .i64 0, .int .i64 0, .int .i64 0, .int .i64 0, .string ByteArray.empty]
  have hX := hXa.setRow (tellC x Xq mq dq Xd md dd)
  have hk2 := keeps_setRow (w1.alloc (.cells #[.int .i64 0, .int .i64 0, .int .i64 0, .int .i64 0, .int .i64 0, .int .i64 0, .string ⟨#[]⟩, .bool false, .int .i64 0, .int .i64 0, .slice none 0 0, .slice none 0 0, .bool false, .int .i64 0, .int .i64 0, .int .i64 0, .int .i64 0, .string ⟨#[]⟩] 29)) (g := w1.heap.size) (tellC x Xq mq dq Xd md dd).toArray
  have hb12 : Below w1.heap.size w1 ((w1.alloc (.cells #[.int .i64 0, .int .i64 0, .int .i64 0, .int .i64 0, .int .i64 0, .int .i64 0, .string ⟨#[]⟩, .bool false, .int .i64 0, .int .i64 0, .slice none 0 0, .slice none 0 0, .bool false, .int .i64 0, .int .i64 0, .int .i64 0, .int .i64 0, .string ⟨#[]⟩] 29)).setRow w1.heap.size (tellC x Xq mq dq Xd md dd).toArray) := ((Below.refl _ _).alloc (Nat.le_refl _) _).trans (hk2.is (Nat.le_refl _) (by simp))
  have hr2 := hrx.up hb12
  have hT2 := (HA.out.up hb1).up hb12
  have hrt2 := (HRD.out.up hb1).up hb12
  have hb2 := HB.out.trans ((Up.trans hb1 hb12).mono HB.out.size)
  clear hXq hXd hb1 hrx hk2 hb12
  go_upto_region 2 with (refine wpList_storeBlk rfl (.tmp 3) (.tmp 8) rfl rfl (tellC x Xq mq dq Xd md dd) rfl rfl (by kernel_rfl) hXa rfl (tellC_ones x Xq mq dq Xd md dd) ?_)
  obtain ⟨gX, hgX⟩ : ∃ g, g = w1.heap.size := ⟨_, rfl⟩
  generalize (w1.alloc (.cells #[.int .i64 0, .int .i64 0, .int .i64 0, .int .i64 0, .int .i64 0, .int .i64 0, .string ⟨#[]⟩, .bool false, .int .i64 0, .int .i64 0, .slice none 0 0, .slice none 0 0, .bool false, .int .i64 0, .int .i64 0, .int .i64 0, .int .i64 0, .string ⟨#[]⟩] 29)).setRow w1.heap.size (tellC x Xq mq dq Xd md dd).toArray = w2 at hX hr2 hT2 hrt2 hb2 ⊢
  rw [← hgX] at hX ⊢
  have HX := Lib.hid hX
  have HT := Lib.hid hT2
  have HRX := Lib.hid hr2
  have HRT := Lib.hid hrt2
  have HB2 := Lib.hid hb2
  clear hX hT2 hr2 hrt2 hb2 hXa hgX
  go_wp2_with first
    | (refine wpList_loadBlk rfl (.tmp 3) rfl rfl (by kernel_rfl) tellT_agg HX.out ?_; simp only [Act.put, List.setIfInBounds_toArray, List.set_cons_succ, List.set_cons_zero])
    | (refine wpList_loadBlk rfl (.tmp 1) rfl rfl (by kernel_rfl) tellT_agg HT.out ?_; simp only [Act.put, List.setIfInBounds_toArray, List.set_cons_succ, List.set_cons_zero])
  refine (refSame_any x ⟨kind, tag, code, msize, iounit, count, name, ⟨qdir, qver, qpath⟩, qids, data, ⟨sdir, sver, spath⟩, smode, ssize, sname⟩ Xq mq dq Xd md dd Aq nq cq Ad nd cd _ HRX.out HRT.out).mono ?_
  rintro e w3 ⟨rfl, hb3⟩
  rw [hx.out, HA0.out]
  have HT3 := Lib.hid (HT.out.up hb3)
  have HR3 := Lib.hid (HRT.out.up hb3)
  have HB3 := Lib.hid (HB2.out.trans (hb3.mono HB2.out.size))
  clear hb3 HX HRX HT HRT
  go_wp2
  go_ret
  exact ⟨rfl, HB3.out⟩
set_option maxRecDepth 100000 in
set_option maxHeartbeats 8000000 in
theorem rmay_c1 (kind tag code msize iounit count : Int) (name : List UInt8) (qdir : Bool) (qver qpath : Int) (qids : List QidV) (data : List UInt8) (sdir : Bool) (sver spath smode ssize : Int) (sname : List UInt8) (Aq : Option Addr) (nq cq : Nat) (Ad : Option Addr) (nd cd : Nat) (w : World) (hrd : TellRd w ⟨kind, tag, code, msize, iounit, count, name, ⟨qdir, qver, qpath⟩, qids, data, ⟨sdir, sver, spath⟩, smode, ssize, sname⟩ Aq nq cq Ad nd cd) (ha0 : sameT (ownT ⟨kind, tag, code, msize, iounit, count, name, ⟨qdir, qver, qpath⟩, qids, data, ⟨sdir, sver, spath⟩, smode, ssize, sname⟩) ⟨kind, tag, code, msize, iounit, count, name, ⟨qdir, qver, qpath⟩, qids, data, ⟨sdir, sver, spath⟩, smode, ssize, sname⟩ = true) (ha1 : fieldsM kind = []) :
    Calls Try.prog 16 #[.agg #[.int .i64 kind, .int .i64 tag, .int .i64 code, .int .i64 msize, .int .i64 iounit, .int .i64 count, .string (st name), .bool qdir, .int .i64 qver, .int .i64 qpath, .slice Aq nq cq, .slice Ad nd cd, .bool sdir, .int .i64 sver, .int .i64 spath, .int .i64 smode, .int .i64 ssize, .string (st sname)]] w fun e w' => e = .returned (.bool false) ∧ Below w.heap.size w w' := by
  have hA0 := Blk.new w 29 [.int .i64 kind, .int .i64 tag, .int .i64 code, .int .i64 msize, .int .i64 iounit, .int .i64 count, .string (st name), .bool qdir, .int .i64 qver, .int .i64 qpath, .slice Aq nq cq, .slice Ad nd cd, .bool sdir, .int .i64 sver, .int .i64 spath, .int .i64 smode, .int .i64 ssize, .string (st sname)]
  obtain ⟨W, hW⟩ : ∃ W, W = w.alloc (.cells #[.int .i64 kind, .int .i64 tag, .int .i64 code, .int .i64 msize, .int .i64 iounit, .int .i64 count, .string (st name), .bool qdir, .int .i64 qver, .int .i64 qpath, .slice Aq nq cq, .slice Ad nd cd, .bool sdir, .int .i64 sver, .int .i64 spath, .int .i64 smode, .int .i64 ssize, .string (st sname)] 29) := ⟨_, rfl⟩
  have hW' : W = w.alloc (.cells [.int .i64 kind, .int .i64 tag, .int .i64 code, .int .i64 msize, .int .i64 iounit, .int .i64 count, .string (st name), .bool qdir, .int .i64 qver, .int .i64 qpath, .slice Aq nq cq, .slice Ad nd cd, .bool sdir, .int .i64 sver, .int .i64 spath, .int .i64 smode, .int .i64 ssize, .string (st sname)].toArray 29) := hW
  rw [← hW'] at hA0
  have hb0 : Below w.heap.size w W := by rw [hW]; exact (Below.refl _ _).alloc (Nat.le_refl _) _
  obtain ⟨gT, hgT⟩ : ∃ x, x = w.heap.size := ⟨_, rfl⟩
  rw [← hgT] at hA0
  have HA := Lib.hid hA0
  have HB := Lib.hid hb0
  have HRD := Lib.hid (hrd.up hb0)
  have HA0 := Lib.hid ha0
  clear hA0 hb0 hrd ha0
  have HA1 := Lib.hid ha1
  clear ha1
  go_enter Try.func16, Try.ntmps16
  go_upto_region 1 with fail
  rw [← hW, ← hgT]
  clear hW hW' hgT
  go_wp2_with (refine wpList_loadBlk rfl (.tmp 1) rfl rfl (by kernel_rfl) tellT_agg HA.out ?_; simp only [Act.put, List.setIfInBounds_toArray, List.set_cons_succ, List.set_cons_zero])
  refine (own18_any kind tag code msize iounit count name qdir qver qpath qids data sdir sver spath smode ssize sname Aq nq cq Ad nd cd _).mono ?_
  rintro e w1 ⟨x, Xq, mq, dq, Xd, md, dd, hx, rfl, hXq, hXd, hb1⟩
  have hrx := own_rd hx.out hXq.out hXd.out (HRD.out.up hb1)
  have hXa : Blk (w1.alloc (.cells #[.int .i64 0, .int .i64 0, .int .i64 0, .int .i64 0, .int .i64 0, .int .i64 0, .string ⟨#[]⟩, .bool false, .int .i64 0, .int .i64 0, .slice none 0 0, .slice none 0 0, .bool false, .int .i64 0, .int .i64 0, .int .i64 0, .int .i64 0, .string ⟨#[]⟩] 29)) w1.heap.size 29 [.int .i64 0, .int .i64 0, .int .i64 0, .int .i64 0, .int .i64 0, .int .i64 0, .string ByteArray.empty, .bool false, .int .i64 0, .int .i64 0, .slice none 0 0, .slice none 0 0, .bool false, .int .i64 0, .int .i64 0, .int .i64 0, .int .i64 0, .string ByteArray.empty] := Blk.new w1 29 [.int .i64 0, .int .i64 0, .int .i64 0, .int .i64 0, .int .i64 0, .int .i64 0, .string ByteArray.empty, .bool false, .int .i64 0, .int .i64 0, .slice none 0 0, .slice none 0 0, .bool false, .int .i64 0, .int .i64 0, .int .i64 0, .int .i64 0, .string ByteArray.empty]
  have hX := hXa.setRow (tellC x Xq mq dq Xd md dd)
  have hk2 := keeps_setRow (w1.alloc (.cells #[.int .i64 0, .int .i64 0, .int .i64 0, .int .i64 0, .int .i64 0, .int .i64 0, .string ⟨#[]⟩, .bool false, .int .i64 0, .int .i64 0, .slice none 0 0, .slice none 0 0, .bool false, .int .i64 0, .int .i64 0, .int .i64 0, .int .i64 0, .string ⟨#[]⟩] 29)) (g := w1.heap.size) (tellC x Xq mq dq Xd md dd).toArray
  have hb12 : Below w1.heap.size w1 ((w1.alloc (.cells #[.int .i64 0, .int .i64 0, .int .i64 0, .int .i64 0, .int .i64 0, .int .i64 0, .string ⟨#[]⟩, .bool false, .int .i64 0, .int .i64 0, .slice none 0 0, .slice none 0 0, .bool false, .int .i64 0, .int .i64 0, .int .i64 0, .int .i64 0, .string ⟨#[]⟩] 29)).setRow w1.heap.size (tellC x Xq mq dq Xd md dd).toArray) := ((Below.refl _ _).alloc (Nat.le_refl _) _).trans (hk2.is (Nat.le_refl _) (by simp))
  have hr2 := hrx.up hb12
  have hT2 := (HA.out.up hb1).up hb12
  have hrt2 := (HRD.out.up hb1).up hb12
  have hb2 := HB.out.trans ((Up.trans hb1 hb12).mono HB.out.size)
  clear hXq hXd hb1 hrx hk2 hb12
  go_upto_region 2 with (refine wpList_storeBlk rfl (.tmp 3) (.tmp 8) rfl rfl (tellC x Xq mq dq Xd md dd) rfl rfl (by kernel_rfl) hXa rfl (tellC_ones x Xq mq dq Xd md dd) ?_)
  obtain ⟨gX, hgX⟩ : ∃ g, g = w1.heap.size := ⟨_, rfl⟩
  generalize (w1.alloc (.cells #[.int .i64 0, .int .i64 0, .int .i64 0, .int .i64 0, .int .i64 0, .int .i64 0, .string ⟨#[]⟩, .bool false, .int .i64 0, .int .i64 0, .slice none 0 0, .slice none 0 0, .bool false, .int .i64 0, .int .i64 0, .int .i64 0, .int .i64 0, .string ⟨#[]⟩] 29)).setRow w1.heap.size (tellC x Xq mq dq Xd md dd).toArray = w2 at hX hr2 hT2 hrt2 hb2 ⊢
  rw [← hgX] at hX ⊢
  have HX := Lib.hid hX
  have HT := Lib.hid hT2
  have HRX := Lib.hid hr2
  have HRT := Lib.hid hrt2
  have HB2 := Lib.hid hb2
  clear hX hT2 hr2 hrt2 hb2 hXa hgX
  go_wp2_with first
    | (refine wpList_loadBlk rfl (.tmp 3) rfl rfl (by kernel_rfl) tellT_agg HX.out ?_; simp only [Act.put, List.setIfInBounds_toArray, List.set_cons_succ, List.set_cons_zero])
    | (refine wpList_loadBlk rfl (.tmp 1) rfl rfl (by kernel_rfl) tellT_agg HT.out ?_; simp only [Act.put, List.setIfInBounds_toArray, List.set_cons_succ, List.set_cons_zero])
  refine (refSame_any x ⟨kind, tag, code, msize, iounit, count, name, ⟨qdir, qver, qpath⟩, qids, data, ⟨sdir, sver, spath⟩, smode, ssize, sname⟩ Xq mq dq Xd md dd Aq nq cq Ad nd cd _ HRX.out HRT.out).mono ?_
  rintro e w3 ⟨rfl, hb3⟩
  rw [hx.out, HA0.out]
  have HT3 := Lib.hid (HT.out.up hb3)
  have HR3 := Lib.hid (HRT.out.up hb3)
  have HB3 := Lib.hid (HB2.out.trans (hb3.mono HB2.out.size))
  clear hb3 HX HRX HT HRT
  have t0 := HT3.out.cell 0 _ rfl
  go_wp2_with fail
  refine (tFields_any kind _).mono ?_
  rintro e w4 ⟨rfl, hb4⟩
  rw [HA1.out]
  have HT4 := Lib.hid (HT3.out.up hb4)
  have HR4 := Lib.hid (HR3.out.up hb4)
  have HB4 := Lib.hid (HB3.out.trans (hb4.mono HB3.out.size))
  have hsn : (st name).size = name.length := st_size name
  have hss : (st sname).size = sname.length := st_size sname
  clear hb4 t0
  have t1 := HT4.out.cell 1 _ rfl
  have t2 := HT4.out.cell 2 _ rfl
  have t6 := HT4.out.cell 6 _ rfl
  have t10 := HT4.out.cell 10 _ rfl
  have t11 := HT4.out.cell 11 _ rfl
  have t17 := HT4.out.cell 17 _ rfl
  go_wp2
  go_ret
  exact ⟨rfl, HB4.out⟩
set_option maxRecDepth 100000 in
set_option maxHeartbeats 8000000 in
theorem rmay_c2 (kind tag code msize iounit count : Int) (name : List UInt8) (qdir : Bool) (qver qpath : Int) (qids : List QidV) (data : List UInt8) (sdir : Bool) (sver spath smode ssize : Int) (sname : List UInt8) (Aq : Option Addr) (nq cq : Nat) (Ad : Option Addr) (nd cd : Nat) (w : World) (hrd : TellRd w ⟨kind, tag, code, msize, iounit, count, name, ⟨qdir, qver, qpath⟩, qids, data, ⟨sdir, sver, spath⟩, smode, ssize, sname⟩ Aq nq cq Ad nd cd) (ha0 : sameT (ownT ⟨kind, tag, code, msize, iounit, count, name, ⟨qdir, qver, qpath⟩, qids, data, ⟨sdir, sver, spath⟩, smode, ssize, sname⟩) ⟨kind, tag, code, msize, iounit, count, name, ⟨qdir, qver, qpath⟩, qids, data, ⟨sdir, sver, spath⟩, smode, ssize, sname⟩ = true) (ha1 : fieldsM kind ≠ []) (ha2 : tag < 0) :
    Calls Try.prog 16 #[.agg #[.int .i64 kind, .int .i64 tag, .int .i64 code, .int .i64 msize, .int .i64 iounit, .int .i64 count, .string (st name), .bool qdir, .int .i64 qver, .int .i64 qpath, .slice Aq nq cq, .slice Ad nd cd, .bool sdir, .int .i64 sver, .int .i64 spath, .int .i64 smode, .int .i64 ssize, .string (st sname)]] w fun e w' => e = .returned (.bool false) ∧ Below w.heap.size w w' := by
  have hA0 := Blk.new w 29 [.int .i64 kind, .int .i64 tag, .int .i64 code, .int .i64 msize, .int .i64 iounit, .int .i64 count, .string (st name), .bool qdir, .int .i64 qver, .int .i64 qpath, .slice Aq nq cq, .slice Ad nd cd, .bool sdir, .int .i64 sver, .int .i64 spath, .int .i64 smode, .int .i64 ssize, .string (st sname)]
  obtain ⟨W, hW⟩ : ∃ W, W = w.alloc (.cells #[.int .i64 kind, .int .i64 tag, .int .i64 code, .int .i64 msize, .int .i64 iounit, .int .i64 count, .string (st name), .bool qdir, .int .i64 qver, .int .i64 qpath, .slice Aq nq cq, .slice Ad nd cd, .bool sdir, .int .i64 sver, .int .i64 spath, .int .i64 smode, .int .i64 ssize, .string (st sname)] 29) := ⟨_, rfl⟩
  have hW' : W = w.alloc (.cells [.int .i64 kind, .int .i64 tag, .int .i64 code, .int .i64 msize, .int .i64 iounit, .int .i64 count, .string (st name), .bool qdir, .int .i64 qver, .int .i64 qpath, .slice Aq nq cq, .slice Ad nd cd, .bool sdir, .int .i64 sver, .int .i64 spath, .int .i64 smode, .int .i64 ssize, .string (st sname)].toArray 29) := hW
  rw [← hW'] at hA0
  have hb0 : Below w.heap.size w W := by rw [hW]; exact (Below.refl _ _).alloc (Nat.le_refl _) _
  obtain ⟨gT, hgT⟩ : ∃ x, x = w.heap.size := ⟨_, rfl⟩
  rw [← hgT] at hA0
  have HA := Lib.hid hA0
  have HB := Lib.hid hb0
  have HRD := Lib.hid (hrd.up hb0)
  have HA0 := Lib.hid ha0
  clear hA0 hb0 hrd ha0
  have HA1 := Lib.hid ha1
  clear ha1
  go_enter Try.func16, Try.ntmps16
  go_upto_region 1 with fail
  rw [← hW, ← hgT]
  clear hW hW' hgT
  go_wp2_with (refine wpList_loadBlk rfl (.tmp 1) rfl rfl (by kernel_rfl) tellT_agg HA.out ?_; simp only [Act.put, List.setIfInBounds_toArray, List.set_cons_succ, List.set_cons_zero])
  refine (own18_any kind tag code msize iounit count name qdir qver qpath qids data sdir sver spath smode ssize sname Aq nq cq Ad nd cd _).mono ?_
  rintro e w1 ⟨x, Xq, mq, dq, Xd, md, dd, hx, rfl, hXq, hXd, hb1⟩
  have hrx := own_rd hx.out hXq.out hXd.out (HRD.out.up hb1)
  have hXa : Blk (w1.alloc (.cells #[.int .i64 0, .int .i64 0, .int .i64 0, .int .i64 0, .int .i64 0, .int .i64 0, .string ⟨#[]⟩, .bool false, .int .i64 0, .int .i64 0, .slice none 0 0, .slice none 0 0, .bool false, .int .i64 0, .int .i64 0, .int .i64 0, .int .i64 0, .string ⟨#[]⟩] 29)) w1.heap.size 29 [.int .i64 0, .int .i64 0, .int .i64 0, .int .i64 0, .int .i64 0, .int .i64 0, .string ByteArray.empty, .bool false, .int .i64 0, .int .i64 0, .slice none 0 0, .slice none 0 0, .bool false, .int .i64 0, .int .i64 0, .int .i64 0, .int .i64 0, .string ByteArray.empty] := Blk.new w1 29 [.int .i64 0, .int .i64 0, .int .i64 0, .int .i64 0, .int .i64 0, .int .i64 0, .string ByteArray.empty, .bool false, .int .i64 0, .int .i64 0, .slice none 0 0, .slice none 0 0, .bool false, .int .i64 0, .int .i64 0, .int .i64 0, .int .i64 0, .string ByteArray.empty]
  have hX := hXa.setRow (tellC x Xq mq dq Xd md dd)
  have hk2 := keeps_setRow (w1.alloc (.cells #[.int .i64 0, .int .i64 0, .int .i64 0, .int .i64 0, .int .i64 0, .int .i64 0, .string ⟨#[]⟩, .bool false, .int .i64 0, .int .i64 0, .slice none 0 0, .slice none 0 0, .bool false, .int .i64 0, .int .i64 0, .int .i64 0, .int .i64 0, .string ⟨#[]⟩] 29)) (g := w1.heap.size) (tellC x Xq mq dq Xd md dd).toArray
  have hb12 : Below w1.heap.size w1 ((w1.alloc (.cells #[.int .i64 0, .int .i64 0, .int .i64 0, .int .i64 0, .int .i64 0, .int .i64 0, .string ⟨#[]⟩, .bool false, .int .i64 0, .int .i64 0, .slice none 0 0, .slice none 0 0, .bool false, .int .i64 0, .int .i64 0, .int .i64 0, .int .i64 0, .string ⟨#[]⟩] 29)).setRow w1.heap.size (tellC x Xq mq dq Xd md dd).toArray) := ((Below.refl _ _).alloc (Nat.le_refl _) _).trans (hk2.is (Nat.le_refl _) (by simp))
  have hr2 := hrx.up hb12
  have hT2 := (HA.out.up hb1).up hb12
  have hrt2 := (HRD.out.up hb1).up hb12
  have hb2 := HB.out.trans ((Up.trans hb1 hb12).mono HB.out.size)
  clear hXq hXd hb1 hrx hk2 hb12
  go_upto_region 2 with (refine wpList_storeBlk rfl (.tmp 3) (.tmp 8) rfl rfl (tellC x Xq mq dq Xd md dd) rfl rfl (by kernel_rfl) hXa rfl (tellC_ones x Xq mq dq Xd md dd) ?_)
  obtain ⟨gX, hgX⟩ : ∃ g, g = w1.heap.size := ⟨_, rfl⟩
  generalize (w1.alloc (.cells #[.int .i64 0, .int .i64 0, .int .i64 0, .int .i64 0, .int .i64 0, .int .i64 0, .string ⟨#[]⟩, .bool false, .int .i64 0, .int .i64 0, .slice none 0 0, .slice none 0 0, .bool false, .int .i64 0, .int .i64 0, .int .i64 0, .int .i64 0, .string ⟨#[]⟩] 29)).setRow w1.heap.size (tellC x Xq mq dq Xd md dd).toArray = w2 at hX hr2 hT2 hrt2 hb2 ⊢
  rw [← hgX] at hX ⊢
  have HX := Lib.hid hX
  have HT := Lib.hid hT2
  have HRX := Lib.hid hr2
  have HRT := Lib.hid hrt2
  have HB2 := Lib.hid hb2
  clear hX hT2 hr2 hrt2 hb2 hXa hgX
  go_wp2_with first
    | (refine wpList_loadBlk rfl (.tmp 3) rfl rfl (by kernel_rfl) tellT_agg HX.out ?_; simp only [Act.put, List.setIfInBounds_toArray, List.set_cons_succ, List.set_cons_zero])
    | (refine wpList_loadBlk rfl (.tmp 1) rfl rfl (by kernel_rfl) tellT_agg HT.out ?_; simp only [Act.put, List.setIfInBounds_toArray, List.set_cons_succ, List.set_cons_zero])
  refine (refSame_any x ⟨kind, tag, code, msize, iounit, count, name, ⟨qdir, qver, qpath⟩, qids, data, ⟨sdir, sver, spath⟩, smode, ssize, sname⟩ Xq mq dq Xd md dd Aq nq cq Ad nd cd _ HRX.out HRT.out).mono ?_
  rintro e w3 ⟨rfl, hb3⟩
  rw [hx.out, HA0.out]
  have HT3 := Lib.hid (HT.out.up hb3)
  have HR3 := Lib.hid (HRT.out.up hb3)
  have HB3 := Lib.hid (HB2.out.trans (hb3.mono HB2.out.size))
  clear hb3 HX HRX HT HRT
  have t0 := HT3.out.cell 0 _ rfl
  go_wp2_with fail
  refine (tFields_any kind _).mono ?_
  rintro e w4 ⟨rfl, hb4⟩
  obtain ⟨L, hL⟩ : ∃ L, L = st (fieldsM kind) := ⟨_, rfl⟩
  have hLne : ¬ L = ⟨#[]⟩ := by rw [hL]; exact st_ne HA1.out
  have hLe : L.toList.isEmpty = false := by rw [hL, ByteArray.toList_eq, st_toList]; simpa using HA1.out
  rw [← hL]
  clear hL
  have HT4 := Lib.hid (HT3.out.up hb4)
  have HR4 := Lib.hid (HR3.out.up hb4)
  have HB4 := Lib.hid (HB3.out.trans (hb4.mono HB3.out.size))
  have hsn : (st name).size = name.length := st_size name
  have hss : (st sname).size = sname.length := st_size sname
  clear hb4 t0
  have t1 := HT4.out.cell 1 _ rfl
  have t2 := HT4.out.cell 2 _ rfl
  have t6 := HT4.out.cell 6 _ rfl
  have t10 := HT4.out.cell 10 _ rfl
  have t11 := HT4.out.cell 11 _ rfl
  have t17 := HT4.out.cell 17 _ rfl
  go_wp2
  go_ret
  exact ⟨rfl, HB4.out⟩
set_option maxRecDepth 100000 in
set_option maxHeartbeats 8000000 in
theorem rmay_c3 (kind tag code msize iounit count : Int) (name : List UInt8) (qdir : Bool) (qver qpath : Int) (qids : List QidV) (data : List UInt8) (sdir : Bool) (sver spath smode ssize : Int) (sname : List UInt8) (Aq : Option Addr) (nq cq : Nat) (Ad : Option Addr) (nd cd : Nat) (w : World) (hrd : TellRd w ⟨kind, tag, code, msize, iounit, count, name, ⟨qdir, qver, qpath⟩, qids, data, ⟨sdir, sver, spath⟩, smode, ssize, sname⟩ Aq nq cq Ad nd cd) (ha0 : sameT (ownT ⟨kind, tag, code, msize, iounit, count, name, ⟨qdir, qver, qpath⟩, qids, data, ⟨sdir, sver, spath⟩, smode, ssize, sname⟩) ⟨kind, tag, code, msize, iounit, count, name, ⟨qdir, qver, qpath⟩, qids, data, ⟨sdir, sver, spath⟩, smode, ssize, sname⟩ = true) (ha1 : fieldsM kind ≠ []) (ha2 : ¬ tag < 0) (ha3 : 65535 < tag) :
    Calls Try.prog 16 #[.agg #[.int .i64 kind, .int .i64 tag, .int .i64 code, .int .i64 msize, .int .i64 iounit, .int .i64 count, .string (st name), .bool qdir, .int .i64 qver, .int .i64 qpath, .slice Aq nq cq, .slice Ad nd cd, .bool sdir, .int .i64 sver, .int .i64 spath, .int .i64 smode, .int .i64 ssize, .string (st sname)]] w fun e w' => e = .returned (.bool false) ∧ Below w.heap.size w w' := by
  have hA0 := Blk.new w 29 [.int .i64 kind, .int .i64 tag, .int .i64 code, .int .i64 msize, .int .i64 iounit, .int .i64 count, .string (st name), .bool qdir, .int .i64 qver, .int .i64 qpath, .slice Aq nq cq, .slice Ad nd cd, .bool sdir, .int .i64 sver, .int .i64 spath, .int .i64 smode, .int .i64 ssize, .string (st sname)]
  obtain ⟨W, hW⟩ : ∃ W, W = w.alloc (.cells #[.int .i64 kind, .int .i64 tag, .int .i64 code, .int .i64 msize, .int .i64 iounit, .int .i64 count, .string (st name), .bool qdir, .int .i64 qver, .int .i64 qpath, .slice Aq nq cq, .slice Ad nd cd, .bool sdir, .int .i64 sver, .int .i64 spath, .int .i64 smode, .int .i64 ssize, .string (st sname)] 29) := ⟨_, rfl⟩
  have hW' : W = w.alloc (.cells [.int .i64 kind, .int .i64 tag, .int .i64 code, .int .i64 msize, .int .i64 iounit, .int .i64 count, .string (st name), .bool qdir, .int .i64 qver, .int .i64 qpath, .slice Aq nq cq, .slice Ad nd cd, .bool sdir, .int .i64 sver, .int .i64 spath, .int .i64 smode, .int .i64 ssize, .string (st sname)].toArray 29) := hW
  rw [← hW'] at hA0
  have hb0 : Below w.heap.size w W := by rw [hW]; exact (Below.refl _ _).alloc (Nat.le_refl _) _
  obtain ⟨gT, hgT⟩ : ∃ x, x = w.heap.size := ⟨_, rfl⟩
  rw [← hgT] at hA0
  have HA := Lib.hid hA0
  have HB := Lib.hid hb0
  have HRD := Lib.hid (hrd.up hb0)
  have HA0 := Lib.hid ha0
  clear hA0 hb0 hrd ha0
  have HA1 := Lib.hid ha1
  clear ha1
  go_enter Try.func16, Try.ntmps16
  go_upto_region 1 with fail
  rw [← hW, ← hgT]
  clear hW hW' hgT
  go_wp2_with (refine wpList_loadBlk rfl (.tmp 1) rfl rfl (by kernel_rfl) tellT_agg HA.out ?_; simp only [Act.put, List.setIfInBounds_toArray, List.set_cons_succ, List.set_cons_zero])
  refine (own18_any kind tag code msize iounit count name qdir qver qpath qids data sdir sver spath smode ssize sname Aq nq cq Ad nd cd _).mono ?_
  rintro e w1 ⟨x, Xq, mq, dq, Xd, md, dd, hx, rfl, hXq, hXd, hb1⟩
  have hrx := own_rd hx.out hXq.out hXd.out (HRD.out.up hb1)
  have hXa : Blk (w1.alloc (.cells #[.int .i64 0, .int .i64 0, .int .i64 0, .int .i64 0, .int .i64 0, .int .i64 0, .string ⟨#[]⟩, .bool false, .int .i64 0, .int .i64 0, .slice none 0 0, .slice none 0 0, .bool false, .int .i64 0, .int .i64 0, .int .i64 0, .int .i64 0, .string ⟨#[]⟩] 29)) w1.heap.size 29 [.int .i64 0, .int .i64 0, .int .i64 0, .int .i64 0, .int .i64 0, .int .i64 0, .string ByteArray.empty, .bool false, .int .i64 0, .int .i64 0, .slice none 0 0, .slice none 0 0, .bool false, .int .i64 0, .int .i64 0, .int .i64 0, .int .i64 0, .string ByteArray.empty] := Blk.new w1 29 [.int .i64 0, .int .i64 0, .int .i64 0, .int .i64 0, .int .i64 0, .int .i64 0, .string ByteArray.empty, .bool false, .int .i64 0, .int .i64 0, .slice none 0 0, .slice none 0 0, .bool false, .int .i64 0, .int .i64 0, .int .i64 0, .int .i64 0, .string ByteArray.empty]
  have hX := hXa.setRow (tellC x Xq mq dq Xd md dd)
  have hk2 := keeps_setRow (w1.alloc (.cells #[.int .i64 0, .int .i64 0, .int .i64 0, .int .i64 0, .int .i64 0, .int .i64 0, .string ⟨#[]⟩, .bool false, .int .i64 0, .int .i64 0, .slice none 0 0, .slice none 0 0, .bool false, .int .i64 0, .int .i64 0, .int .i64 0, .int .i64 0, .string ⟨#[]⟩] 29)) (g := w1.heap.size) (tellC x Xq mq dq Xd md dd).toArray
  have hb12 : Below w1.heap.size w1 ((w1.alloc (.cells #[.int .i64 0, .int .i64 0, .int .i64 0, .int .i64 0, .int .i64 0, .int .i64 0, .string ⟨#[]⟩, .bool false, .int .i64 0, .int .i64 0, .slice none 0 0, .slice none 0 0, .bool false, .int .i64 0, .int .i64 0, .int .i64 0, .int .i64 0, .string ⟨#[]⟩] 29)).setRow w1.heap.size (tellC x Xq mq dq Xd md dd).toArray) := ((Below.refl _ _).alloc (Nat.le_refl _) _).trans (hk2.is (Nat.le_refl _) (by simp))
  have hr2 := hrx.up hb12
  have hT2 := (HA.out.up hb1).up hb12
  have hrt2 := (HRD.out.up hb1).up hb12
  have hb2 := HB.out.trans ((Up.trans hb1 hb12).mono HB.out.size)
  clear hXq hXd hb1 hrx hk2 hb12
  go_upto_region 2 with (refine wpList_storeBlk rfl (.tmp 3) (.tmp 8) rfl rfl (tellC x Xq mq dq Xd md dd) rfl rfl (by kernel_rfl) hXa rfl (tellC_ones x Xq mq dq Xd md dd) ?_)
  obtain ⟨gX, hgX⟩ : ∃ g, g = w1.heap.size := ⟨_, rfl⟩
  generalize (w1.alloc (.cells #[.int .i64 0, .int .i64 0, .int .i64 0, .int .i64 0, .int .i64 0, .int .i64 0, .string ⟨#[]⟩, .bool false, .int .i64 0, .int .i64 0, .slice none 0 0, .slice none 0 0, .bool false, .int .i64 0, .int .i64 0, .int .i64 0, .int .i64 0, .string ⟨#[]⟩] 29)).setRow w1.heap.size (tellC x Xq mq dq Xd md dd).toArray = w2 at hX hr2 hT2 hrt2 hb2 ⊢
  rw [← hgX] at hX ⊢
  have HX := Lib.hid hX
  have HT := Lib.hid hT2
  have HRX := Lib.hid hr2
  have HRT := Lib.hid hrt2
  have HB2 := Lib.hid hb2
  clear hX hT2 hr2 hrt2 hb2 hXa hgX
  go_wp2_with first
    | (refine wpList_loadBlk rfl (.tmp 3) rfl rfl (by kernel_rfl) tellT_agg HX.out ?_; simp only [Act.put, List.setIfInBounds_toArray, List.set_cons_succ, List.set_cons_zero])
    | (refine wpList_loadBlk rfl (.tmp 1) rfl rfl (by kernel_rfl) tellT_agg HT.out ?_; simp only [Act.put, List.setIfInBounds_toArray, List.set_cons_succ, List.set_cons_zero])
  refine (refSame_any x ⟨kind, tag, code, msize, iounit, count, name, ⟨qdir, qver, qpath⟩, qids, data, ⟨sdir, sver, spath⟩, smode, ssize, sname⟩ Xq mq dq Xd md dd Aq nq cq Ad nd cd _ HRX.out HRT.out).mono ?_
  rintro e w3 ⟨rfl, hb3⟩
  rw [hx.out, HA0.out]
  have HT3 := Lib.hid (HT.out.up hb3)
  have HR3 := Lib.hid (HRT.out.up hb3)
  have HB3 := Lib.hid (HB2.out.trans (hb3.mono HB2.out.size))
  clear hb3 HX HRX HT HRT
  have t0 := HT3.out.cell 0 _ rfl
  go_wp2_with fail
  refine (tFields_any kind _).mono ?_
  rintro e w4 ⟨rfl, hb4⟩
  obtain ⟨L, hL⟩ : ∃ L, L = st (fieldsM kind) := ⟨_, rfl⟩
  have hLne : ¬ L = ⟨#[]⟩ := by rw [hL]; exact st_ne HA1.out
  have hLe : L.toList.isEmpty = false := by rw [hL, ByteArray.toList_eq, st_toList]; simpa using HA1.out
  rw [← hL]
  clear hL
  have HT4 := Lib.hid (HT3.out.up hb4)
  have HR4 := Lib.hid (HR3.out.up hb4)
  have HB4 := Lib.hid (HB3.out.trans (hb4.mono HB3.out.size))
  have hsn : (st name).size = name.length := st_size name
  have hss : (st sname).size = sname.length := st_size sname
  clear hb4 t0
  have t1 := HT4.out.cell 1 _ rfl
  have t2 := HT4.out.cell 2 _ rfl
  have t6 := HT4.out.cell 6 _ rfl
  have t10 := HT4.out.cell 10 _ rfl
  have t11 := HT4.out.cell 11 _ rfl
  have t17 := HT4.out.cell 17 _ rfl
  go_wp2
  go_ret
  exact ⟨rfl, HB4.out⟩
set_option maxRecDepth 100000 in
set_option maxHeartbeats 8000000 in
theorem rmay_c4 (kind tag code msize iounit count : Int) (name : List UInt8) (qdir : Bool) (qver qpath : Int) (qids : List QidV) (data : List UInt8) (sdir : Bool) (sver spath smode ssize : Int) (sname : List UInt8) (Aq : Option Addr) (nq cq : Nat) (Ad : Option Addr) (nd cd : Nat) (w : World) (hrd : TellRd w ⟨kind, tag, code, msize, iounit, count, name, ⟨qdir, qver, qpath⟩, qids, data, ⟨sdir, sver, spath⟩, smode, ssize, sname⟩ Aq nq cq Ad nd cd) (ha0 : sameT (ownT ⟨kind, tag, code, msize, iounit, count, name, ⟨qdir, qver, qpath⟩, qids, data, ⟨sdir, sver, spath⟩, smode, ssize, sname⟩) ⟨kind, tag, code, msize, iounit, count, name, ⟨qdir, qver, qpath⟩, qids, data, ⟨sdir, sver, spath⟩, smode, ssize, sname⟩ = true) (ha1 : fieldsM kind ≠ []) (ha2 : ¬ tag < 0) (ha3 : ¬ 65535 < tag) (ha4 : code < 0) :
    Calls Try.prog 16 #[.agg #[.int .i64 kind, .int .i64 tag, .int .i64 code, .int .i64 msize, .int .i64 iounit, .int .i64 count, .string (st name), .bool qdir, .int .i64 qver, .int .i64 qpath, .slice Aq nq cq, .slice Ad nd cd, .bool sdir, .int .i64 sver, .int .i64 spath, .int .i64 smode, .int .i64 ssize, .string (st sname)]] w fun e w' => e = .returned (.bool false) ∧ Below w.heap.size w w' := by
  have hA0 := Blk.new w 29 [.int .i64 kind, .int .i64 tag, .int .i64 code, .int .i64 msize, .int .i64 iounit, .int .i64 count, .string (st name), .bool qdir, .int .i64 qver, .int .i64 qpath, .slice Aq nq cq, .slice Ad nd cd, .bool sdir, .int .i64 sver, .int .i64 spath, .int .i64 smode, .int .i64 ssize, .string (st sname)]
  obtain ⟨W, hW⟩ : ∃ W, W = w.alloc (.cells #[.int .i64 kind, .int .i64 tag, .int .i64 code, .int .i64 msize, .int .i64 iounit, .int .i64 count, .string (st name), .bool qdir, .int .i64 qver, .int .i64 qpath, .slice Aq nq cq, .slice Ad nd cd, .bool sdir, .int .i64 sver, .int .i64 spath, .int .i64 smode, .int .i64 ssize, .string (st sname)] 29) := ⟨_, rfl⟩
  have hW' : W = w.alloc (.cells [.int .i64 kind, .int .i64 tag, .int .i64 code, .int .i64 msize, .int .i64 iounit, .int .i64 count, .string (st name), .bool qdir, .int .i64 qver, .int .i64 qpath, .slice Aq nq cq, .slice Ad nd cd, .bool sdir, .int .i64 sver, .int .i64 spath, .int .i64 smode, .int .i64 ssize, .string (st sname)].toArray 29) := hW
  rw [← hW'] at hA0
  have hb0 : Below w.heap.size w W := by rw [hW]; exact (Below.refl _ _).alloc (Nat.le_refl _) _
  obtain ⟨gT, hgT⟩ : ∃ x, x = w.heap.size := ⟨_, rfl⟩
  rw [← hgT] at hA0
  have HA := Lib.hid hA0
  have HB := Lib.hid hb0
  have HRD := Lib.hid (hrd.up hb0)
  have HA0 := Lib.hid ha0
  clear hA0 hb0 hrd ha0
  have HA1 := Lib.hid ha1
  clear ha1
  go_enter Try.func16, Try.ntmps16
  go_upto_region 1 with fail
  rw [← hW, ← hgT]
  clear hW hW' hgT
  go_wp2_with (refine wpList_loadBlk rfl (.tmp 1) rfl rfl (by kernel_rfl) tellT_agg HA.out ?_; simp only [Act.put, List.setIfInBounds_toArray, List.set_cons_succ, List.set_cons_zero])
  refine (own18_any kind tag code msize iounit count name qdir qver qpath qids data sdir sver spath smode ssize sname Aq nq cq Ad nd cd _).mono ?_
  rintro e w1 ⟨x, Xq, mq, dq, Xd, md, dd, hx, rfl, hXq, hXd, hb1⟩
  have hrx := own_rd hx.out hXq.out hXd.out (HRD.out.up hb1)
  have hXa : Blk (w1.alloc (.cells #[.int .i64 0, .int .i64 0, .int .i64 0, .int .i64 0, .int .i64 0, .int .i64 0, .string ⟨#[]⟩, .bool false, .int .i64 0, .int .i64 0, .slice none 0 0, .slice none 0 0, .bool false, .int .i64 0, .int .i64 0, .int .i64 0, .int .i64 0, .string ⟨#[]⟩] 29)) w1.heap.size 29 [.int .i64 0, .int .i64 0, .int .i64 0, .int .i64 0, .int .i64 0, .int .i64 0, .string ByteArray.empty, .bool false, .int .i64 0, .int .i64 0, .slice none 0 0, .slice none 0 0, .bool false, .int .i64 0, .int .i64 0, .int .i64 0, .int .i64 0, .string ByteArray.empty] := Blk.new w1 29 [.int .i64 0, .int .i64 0, .int .i64 0, .int .i64 0, .int .i64 0, .int .i64 0, .string ByteArray.empty, .bool false, .int .i64 0, .int .i64 0, .slice none 0 0, .slice none 0 0, .bool false, .int .i64 0, .int .i64 0, .int .i64 0, .int .i64 0, .string ByteArray.empty]
  have hX := hXa.setRow (tellC x Xq mq dq Xd md dd)
  have hk2 := keeps_setRow (w1.alloc (.cells #[.int .i64 0, .int .i64 0, .int .i64 0, .int .i64 0, .int .i64 0, .int .i64 0, .string ⟨#[]⟩, .bool false, .int .i64 0, .int .i64 0, .slice none 0 0, .slice none 0 0, .bool false, .int .i64 0, .int .i64 0, .int .i64 0, .int .i64 0, .string ⟨#[]⟩] 29)) (g := w1.heap.size) (tellC x Xq mq dq Xd md dd).toArray
  have hb12 : Below w1.heap.size w1 ((w1.alloc (.cells #[.int .i64 0, .int .i64 0, .int .i64 0, .int .i64 0, .int .i64 0, .int .i64 0, .string ⟨#[]⟩, .bool false, .int .i64 0, .int .i64 0, .slice none 0 0, .slice none 0 0, .bool false, .int .i64 0, .int .i64 0, .int .i64 0, .int .i64 0, .string ⟨#[]⟩] 29)).setRow w1.heap.size (tellC x Xq mq dq Xd md dd).toArray) := ((Below.refl _ _).alloc (Nat.le_refl _) _).trans (hk2.is (Nat.le_refl _) (by simp))
  have hr2 := hrx.up hb12
  have hT2 := (HA.out.up hb1).up hb12
  have hrt2 := (HRD.out.up hb1).up hb12
  have hb2 := HB.out.trans ((Up.trans hb1 hb12).mono HB.out.size)
  clear hXq hXd hb1 hrx hk2 hb12
  go_upto_region 2 with (refine wpList_storeBlk rfl (.tmp 3) (.tmp 8) rfl rfl (tellC x Xq mq dq Xd md dd) rfl rfl (by kernel_rfl) hXa rfl (tellC_ones x Xq mq dq Xd md dd) ?_)
  obtain ⟨gX, hgX⟩ : ∃ g, g = w1.heap.size := ⟨_, rfl⟩
  generalize (w1.alloc (.cells #[.int .i64 0, .int .i64 0, .int .i64 0, .int .i64 0, .int .i64 0, .int .i64 0, .string ⟨#[]⟩, .bool false, .int .i64 0, .int .i64 0, .slice none 0 0, .slice none 0 0, .bool false, .int .i64 0, .int .i64 0, .int .i64 0, .int .i64 0, .string ⟨#[]⟩] 29)).setRow w1.heap.size (tellC x Xq mq dq Xd md dd).toArray = w2 at hX hr2 hT2 hrt2 hb2 ⊢
  rw [← hgX] at hX ⊢
  have HX := Lib.hid hX
  have HT := Lib.hid hT2
  have HRX := Lib.hid hr2
  have HRT := Lib.hid hrt2
  have HB2 := Lib.hid hb2
  clear hX hT2 hr2 hrt2 hb2 hXa hgX
  go_wp2_with first
    | (refine wpList_loadBlk rfl (.tmp 3) rfl rfl (by kernel_rfl) tellT_agg HX.out ?_; simp only [Act.put, List.setIfInBounds_toArray, List.set_cons_succ, List.set_cons_zero])
    | (refine wpList_loadBlk rfl (.tmp 1) rfl rfl (by kernel_rfl) tellT_agg HT.out ?_; simp only [Act.put, List.setIfInBounds_toArray, List.set_cons_succ, List.set_cons_zero])
  refine (refSame_any x ⟨kind, tag, code, msize, iounit, count, name, ⟨qdir, qver, qpath⟩, qids, data, ⟨sdir, sver, spath⟩, smode, ssize, sname⟩ Xq mq dq Xd md dd Aq nq cq Ad nd cd _ HRX.out HRT.out).mono ?_
  rintro e w3 ⟨rfl, hb3⟩
  rw [hx.out, HA0.out]
  have HT3 := Lib.hid (HT.out.up hb3)
  have HR3 := Lib.hid (HRT.out.up hb3)
  have HB3 := Lib.hid (HB2.out.trans (hb3.mono HB2.out.size))
  clear hb3 HX HRX HT HRT
  have t0 := HT3.out.cell 0 _ rfl
  go_wp2_with fail
  refine (tFields_any kind _).mono ?_
  rintro e w4 ⟨rfl, hb4⟩
  obtain ⟨L, hL⟩ : ∃ L, L = st (fieldsM kind) := ⟨_, rfl⟩
  have hLne : ¬ L = ⟨#[]⟩ := by rw [hL]; exact st_ne HA1.out
  have hLe : L.toList.isEmpty = false := by rw [hL, ByteArray.toList_eq, st_toList]; simpa using HA1.out
  rw [← hL]
  clear hL
  have HT4 := Lib.hid (HT3.out.up hb4)
  have HR4 := Lib.hid (HR3.out.up hb4)
  have HB4 := Lib.hid (HB3.out.trans (hb4.mono HB3.out.size))
  have hsn : (st name).size = name.length := st_size name
  have hss : (st sname).size = sname.length := st_size sname
  clear hb4 t0
  have t1 := HT4.out.cell 1 _ rfl
  have t2 := HT4.out.cell 2 _ rfl
  have t6 := HT4.out.cell 6 _ rfl
  have t10 := HT4.out.cell 10 _ rfl
  have t11 := HT4.out.cell 11 _ rfl
  have t17 := HT4.out.cell 17 _ rfl
  go_wp2
  go_ret
  exact ⟨rfl, HB4.out⟩
end Go.Proofs.Ytoplkglnjgllnaa
