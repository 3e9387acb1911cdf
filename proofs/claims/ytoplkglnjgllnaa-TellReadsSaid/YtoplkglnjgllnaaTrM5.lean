/-
  ref18.May: the first condition that holds.
-/
import Derived.Test.YtoplkglnjgllnaaTrP
namespace Go.Proofs.Ytoplkglnjgllnaa
open Go.RowKit
set_option linter.unusedVariables false
set_option linter.unusedSimpArgs false

set_option maxRecDepth 100000 in
set_option maxHeartbeats 8000000 in
theorem rmay_f3 (kind tag code msize iounit count : Int) (name : List UInt8) (qdir : Bool) (qver qpath : Int) (qids : List QidV) (data : List UInt8) (sdir : Bool) (sver spath smode ssize : Int) (sname : List UInt8) (Aq : Option Addr) (nq cq : Nat) (Ad : Option Addr) (nd cd : Nat) (w : World) (hrd : TellRd w ⟨kind, tag, code, msize, iounit, count, name, ⟨qdir, qver, qpath⟩, qids, data, ⟨sdir, sver, spath⟩, smode, ssize, sname⟩ Aq nq cq Ad nd cd) (ha0 : sameT (ownT ⟨kind, tag, code, msize, iounit, count, name, ⟨qdir, qver, qpath⟩, qids, data, ⟨sdir, sver, spath⟩, smode, ssize, sname⟩) ⟨kind, tag, code, msize, iounit, count, name, ⟨qdir, qver, qpath⟩, qids, data, ⟨sdir, sver, spath⟩, smode, ssize, sname⟩ = true) (ha1 : fieldsM kind ≠ []) (ha2 : ¬ tag < 0) (ha3 : ¬ 65535 < tag) (ha4 : ¬ code < 0) (ha5 : ¬ 65535 < code) (ha6 : ¬ (8 : Int) < nq) (ha7 : ¬ (1024 : Int) < nd) (ha8 : ¬ (255 : Int) < name.length) (ha9 : ¬ (255 : Int) < sname.length) (hall : qids.all qidOk = true) (hfq : qidOk ⟨qdir, qver, qpath⟩ = true) (hfs : qidOk ⟨sdir, sver, spath⟩ = true) (hf3 : inB msize 4294967295 = true) (hf4 : inB iounit 4294967295 = false) :
    Calls Try.prog 16 #[.agg #[.int .i64 kind, .int .i64 tag, .int .i64 code, .int .i64 msize, .int .i64 iounit, .int .i64 count, .string (st name), .bool qdir, .int .i64 qver, .int .i64 qpath, .slice Aq nq cq, .slice Ad nd cd, .bool sdir, .int .i64 sver, .int .i64 spath, .int .i64 smode, .int .i64 ssize, .string (st sname)]] w fun e w' => e = .returned (.bool false) ∧ Below w.heap.size w w' := by
  have hA0 := Blk.new w 29 [.int .i64 kind, .int .i64 tag, .int .i64 code, .int .i64 msize, .int .i64 iounit, .int .i64 count, .string (st name), .bool qdir, .int .i64 qver, .int .i64 qpath, .slice Aq nq cq, .slice Ad nd cd, .bool sdir, .int .i64 sver, .int .i64 spath, .int .i64 smode, .int .i64 ssize, .string (st sname)]
  obtain ⟨W, hW⟩ : ∃ W, W = w.alloc (.cells #[.int .i64 kind, .int .i64 tag, .int .i64 code, .int .i64 msize, .int .i64 iounit, .int .i64 count, .string (st name), .bool qdir, .int .i64 qver, .int .i64 qpath, .slice Aq nq cq, .slice Ad nd cd, .bool sdir, .int .i64 sver, .int .i64 spath, .int .i64 smode, .int .i64 ssize, .string (st sname)] 29) := ⟨_, rfl⟩
  have hW' : W = w.alloc (.cells [.int .i64 kind, .int .i64 tag, .int .i64 code, .int .i64 msize, .int .i64 iounit, .int .i64 count, .string (st name), .bool qdir, .int .i64 qver, .int .i64 qpath, .slice Aq nq cq, .slice Ad nd cd, .bool sdir, .int .i64 sver, .int .i64 spath, .int .i64 smode, .int .i64 ssize, .string (st sname)].toArray 29) := hW
  rw [← hW'] at hA0
  have hb0 : Below w.heap.size w W := by rw [hW]; exact (Below.refl _ _).alloc (Nat.le_refl _) _
  obtain ⟨gT, hgT⟩ : ∃ x, x = w.heap.size := ⟨_, rfl⟩
  rw [← hgT] at hA0
  have HA := Lib.hid hA0
  have HB := Lib.hid hb0
  have HRD := Lib.hid (hrd.up hb0)
  have HA0 := Lib.hid ha0
  clear hA0 hb0 hrd ha0
  have HA1 := Lib.hid ha1
  clear ha1
  have HALL := Lib.hid hall
  clear hall
  go_enter Try.func16, Try.ntmps16
  go_upto_region 1 with fail
  rw [← hW, ← hgT]
  clear hW hW' hgT
  go_wp2_with (refine wpList_loadBlk rfl (.tmp 1) rfl rfl (by kernel_rfl) tellT_agg HA.out ?_; simp only [Act.put, List.setIfInBounds_toArray, List.set_cons_succ, List.set_cons_zero])
  refine (own18_any kind tag code msize iounit count name qdir qver qpath qids data sdir sver spath smode ssize sname Aq nq cq Ad nd cd _).mono ?_
  rintro e w1 ⟨x, Xq, mq, dq, Xd, md, dd, hx, rfl, hXq, hXd, hb1⟩
  have hrx := own_rd hx.out hXq.out hXd.out (HRD.out.up hb1)
  have hXa : Blk (w1.alloc (.cells #[.int .i64 0, .int .i64 0, .int .i64 0, .int .i64 0, .int .i64 0, .int .i64 0, .string ⟨#[]⟩, .bool false, .int .i64 0, .int .i64 0, .slice none 0 0, .slice none 0 0, .bool false, .int .i64 0, .int .i64 0, .int .i64 0, .int .i64 0, .string ⟨#[]⟩] 29)) w1.heap.size 29 [.int .i64 0, .int .i64 0, .int .i64 0, .int .i64 0, .int .i64 0, .int .i64 0, .string ByteArray.empty, .bool false, .int .i64 0, .int .i64 0, .slice none 0 0, .slice none 0 0, .bool false, .int .i64 0, .int .i64 0, .int .i64 0, .int .i64 0, .string ByteArray.empty] := Blk.new w1 29 [.int .i64 0, .int .i64 0, .int .i64 0, .int .i64 0, .int .i64 0, .int .i64 0, .string ByteArray.empty, .bool false, .int .i64 0, .int .i64 0, .slice none 0 0, .slice none 0 0, .bool false, .int .i64 0, .int .i64 0, .int .i64 0, .int .i64 0, .string ByteArray.empty]
  have hX := hXa.setRow (tellC x Xq mq dq Xd md dd)
  have hk2 := keeps_setRow (w1.alloc (.cells #[.int .i64 0, .int .i64 0, .int .i64 0, .int .i64 0, .int .i64 0, .int .i64 0, .string ⟨#[]⟩, .bool false, .int .i64 0, .int .i64 0, .slice none 0 0, .slice none 0 0, .bool false, .int .i64 0, .int .i64 0, .int .i64 0, .int .i64 0, .string ⟨#[]⟩] 29)) (g := w1.heap.size) (tellC x Xq mq dq Xd md dd).toArray
  have hb12 : Below w1.heap.size w1 ((w1.alloc (.cells #[.int .i64 0, .int .i64 0, .int .i64 0, .int .i64 0, .int .i64 0, .int .i64 0, .string ⟨#[]⟩, .bool false, .int .i64 0, .int .i64 0, .slice none 0 0, .slice none 0 0, .bool false, .int .i64 0, .int .i64 0, .int .i64 0, .int .i64 0, .string ⟨#[]⟩] 29)).setRow w1.heap.size (tellC x Xq mq dq Xd md dd).toArray) := ((Below.refl _ _).alloc (Nat.le_refl _) _).trans (hk2.is (Nat.le_refl _) (by simp))
  have hr2 := hrx.up hb12
  have hT2 := (HA.out.up hb1).up hb12
  have hrt2 := (HRD.out.up hb1).up hb12
  have hb2 := HB.out.trans ((Up.trans hb1 hb12).mono HB.out.size)
  clear hXq hXd hb1 hrx hk2 hb12
  go_upto_region 2 with (refine wpList_storeBlk rfl (.tmp 3) (.tmp 8) rfl rfl (tellC x Xq mq dq Xd md dd) rfl rfl (by kernel_rfl) hXa rfl (tellC_ones x Xq mq dq Xd md dd) ?_)
  obtain ⟨gX, hgX⟩ : ∃ g, g = w1.heap.size := ⟨_, rfl⟩
  generalize (w1.alloc (.cells #[.int .i64 0, .int .i64 0, .int .i64 0, .int .i64 0, .int .i64 0, .int .i64 0, .string ⟨#[]⟩, .bool false, .int .i64 0, .int .i64 0, .slice none 0 0, .slice none 0 0, .bool false, .int .i64 0, .int .i64 0, .int .i64 0, .int .i64 0, .string ⟨#[]⟩] 29)).setRow w1.heap.size (tellC x Xq mq dq Xd md dd).toArray = w2 at hX hr2 hT2 hrt2 hb2 ⊢
  rw [← hgX] at hX ⊢
  have HX := Lib.hid hX
  have HT := Lib.hid hT2
  have HRX := Lib.hid hr2
  have HRT := Lib.hid hrt2
  have HB2 := Lib.hid hb2
  clear hX hT2 hr2 hrt2 hb2 hXa hgX
  go_wp2_with first
    | (refine wpList_loadBlk rfl (.tmp 3) rfl rfl (by kernel_rfl) tellT_agg HX.out ?_; simp only [Act.put, List.setIfInBounds_toArray, List.set_cons_succ, List.set_cons_zero])
    | (refine wpList_loadBlk rfl (.tmp 1) rfl rfl (by kernel_rfl) tellT_agg HT.out ?_; simp only [Act.put, List.setIfInBounds_toArray, List.set_cons_succ, List.set_cons_zero])
  refine (refSame_any x ⟨kind, tag, code, msize, iounit, count, name, ⟨qdir, qver, qpath⟩, qids, data, ⟨sdir, sver, spath⟩, smode, ssize, sname⟩ Xq mq dq Xd md dd Aq nq cq Ad nd cd _ HRX.out HRT.out).mono ?_
  rintro e w3 ⟨rfl, hb3⟩
  rw [hx.out, HA0.out]
  have HT3 := Lib.hid (HT.out.up hb3)
  have HR3 := Lib.hid (HRT.out.up hb3)
  have HB3 := Lib.hid (HB2.out.trans (hb3.mono HB2.out.size))
  clear hb3 HX HRX HT HRT
  have t0 := HT3.out.cell 0 _ rfl
  go_wp2_with fail
  refine (tFields_any kind _).mono ?_
  rintro e w4 ⟨rfl, hb4⟩
  obtain ⟨L, hL⟩ : ∃ L, L = st (fieldsM kind) := ⟨_, rfl⟩
  have hLne : ¬ L = ⟨#[]⟩ := by rw [hL]; exact st_ne HA1.out
  have hLe : L.toList.isEmpty = false := by rw [hL, ByteArray.toList_eq, st_toList]; simpa using HA1.out
  rw [← hL]
  clear hL
  have HT4 := Lib.hid (HT3.out.up hb4)
  have HR4 := Lib.hid (HR3.out.up hb4)
  have HB4 := Lib.hid (HB3.out.trans (hb4.mono HB3.out.size))
  have hsn : (st name).size = name.length := st_size name
  have hss : (st sname).size = sname.length := st_size sname
  clear hb4 t0
  have t1 := HT4.out.cell 1 _ rfl
  have t2 := HT4.out.cell 2 _ rfl
  have t6 := HT4.out.cell 6 _ rfl
  have t10 := HT4.out.cell 10 _ rfl
  have t11 := HT4.out.cell 11 _ rfl
  have t17 := HT4.out.cell 17 _ rfl
  go_wp2
  clear t1 t2 t6 t10 t11 t17 hLne hLe hsn hss
  go_loopw [5] (fun i wr => MayJ w4 nq qids i wr) (fun i _ => nq - (intOf i).toNat)
  case atStart => exact ⟨0, by omega, rfl, Lib.hid (by simp), Below.refl _ _⟩
  case round =>
    obtain ⟨j, hj, rfl, hok, hbw⟩ := hrel
    have hT := HT4.out.up hbw
    have hlq : qids.length = nq := by have := HR4.out.q.len; simpa using this
    have HLQ := Lib.hid hlq
    have t10 := hT.cell 10 _ rfl
    have HBW := Lib.hid hbw
    clear hlq hbw
    by_cases hlt : j < nq
    · have j0 : (0 : Int) ≤ j := by omega
      have j1 : (j : Int) < nq := by omega
      obtain ⟨b1, o1, r1, hA1', hb1, hr1, _, hc1⟩ := (HR4.out.q.below HBW.out).at_ hlt
      have hjl : j < qids.length := by rw [HLQ.out]; exact hlt
      obtain ⟨y, hy⟩ : ∃ y, qids[j]? = some y := ⟨_, List.getElem?_eq_getElem hjl⟩
      rw [List.getElem?_map, hy] at hr1
      obtain rfl : r1 = qidC y := (Option.some.inj hr1).symm
      have htk : qids.take (j + 1) = qids.take j ++ [y] := by rw [List.take_add_one, hy]; rfl
      have HTK := Lib.hid htk
      have HMEM := Lib.hid (List.mem_of_getElem? hy)
      subst hA1'
      have d0 := hc1 0 _ rfl
      have d1 := hc1 1 _ rfl
      have d2 := hc1 2 _ rfl
      simp only [Nat.add_zero] at d0
      clear hc1 hr1 hy hb1 htk hT
      go_wp2_with fail
      refine (tQidOk_any y _).mono ?_
      rintro e w5 ⟨rfl, hb5⟩
      have HB5 := Lib.hid (Up.trans HBW.out hb5)
      clear hb5 d0 d1 d2 t10
      have hyo : qidOk y = true := (List.all_eq_true.1 HALL.out) y HMEM.out
      rw [hyo]
      have hnx : (qids.take (j + 1)).all qidOk = true := by rw [HTK.out]; simp [hok.out, hyo]
      have HNX := Lib.hid hnx
      clear hyo hnx
      go_wp2
      go_roundw
      case rel => exact ⟨j + 1, by omega, by go_num, HNX.out, HB5.out⟩
      case measure => simp [intOf]; omega
    · obtain rfl : j = nq := by omega
      have j1 : ¬ (j : Int) < j := by omega
      have HTr := Lib.hid hT
      have HBr := Lib.hid (HB4.out.trans (HBW.out.mono HB4.out.size))
      have t7 := hT.cell 7 _ rfl
      have t8 := hT.cell 8 _ rfl
      have t9 := hT.cell 9 _ rfl
      clear hT
      go_wp2_with fail
      refine (tQidOk_any ⟨qdir, qver, qpath⟩ _).mono ?_
      rintro e w5 ⟨rfl, hb5⟩
      rw [hfq]
      have HT5 := Lib.hid (HTr.out.up hb5)
      have HB5 := Lib.hid (HBr.out.trans (hb5.mono HBr.out.size))
      clear hb5 t7 t8 t9 t10
      have t12 := HT5.out.cell 12 _ rfl
      have t13 := HT5.out.cell 13 _ rfl
      have t14 := HT5.out.cell 14 _ rfl
      go_wp2_with fail
      refine (tQidOk_any ⟨sdir, sver, spath⟩ _).mono ?_
      rintro e w6 ⟨rfl, hb6⟩
      rw [hfs]
      have HT6 := Lib.hid (HT5.out.up hb6)
      have HB6 := Lib.hid (HB5.out.trans (hb6.mono HB5.out.size))
      clear hb6 t12 t13 t14
      have t3 := HT6.out.cell 3 _ rfl
      have t4 := HT6.out.cell 4 _ rfl
      have t5 := HT6.out.cell 5 _ rfl
      have t15 := HT6.out.cell 15 _ rfl
      have t16 := HT6.out.cell 16 _ rfl
      go_wp2_with fail
      refine (tWord_any msize _).mono ?_
      rintro e w7 ⟨rfl, rfl⟩
      rw [hf3]
      go_wp2_with fail
      refine (tWord_any iounit _).mono ?_
      rintro e w7 ⟨rfl, rfl⟩
      rw [hf4]
      go_wp2
      go_ret
      exact ⟨rfl, HB6.out⟩
set_option maxRecDepth 100000 in
set_option maxHeartbeats 8000000 in
theorem rmay_f4 (kind tag code msize iounit count : Int) (name : List UInt8) (qdir : Bool) (qver qpath : Int) (qids : List QidV) (data : List UInt8) (sdir : Bool) (sver spath smode ssize : Int) (sname : List UInt8) (Aq : Option Addr) (nq cq : Nat) (Ad : Option Addr) (nd cd : Nat) (w : World) (hrd : TellRd w ⟨kind, tag, code, msize, iounit, count, name, ⟨qdir, qver, qpath⟩, qids, data, ⟨sdir, sver, spath⟩, smode, ssize, sname⟩ Aq nq cq Ad nd cd) (ha0 : sameT (ownT ⟨kind, tag, code, msize, iounit, count, name, ⟨qdir, qver, qpath⟩, qids, data, ⟨sdir, sver, spath⟩, smode, ssize, sname⟩) ⟨kind, tag, code, msize, iounit, count, name, ⟨qdir, qver, qpath⟩, qids, data, ⟨sdir, sver, spath⟩, smode, ssize, sname⟩ = true) (ha1 : fieldsM kind ≠ []) (ha2 : ¬ tag < 0) (ha3 : ¬ 65535 < tag) (ha4 : ¬ code < 0) (ha5 : ¬ 65535 < code) (ha6 : ¬ (8 : Int) < nq) (ha7 : ¬ (1024 : Int) < nd) (ha8 : ¬ (255 : Int) < name.length) (ha9 : ¬ (255 : Int) < sname.length) (hall : qids.all qidOk = true) (hfq : qidOk ⟨qdir, qver, qpath⟩ = true) (hfs : qidOk ⟨sdir, sver, spath⟩ = true) (hf3 : inB msize 4294967295 = true) (hf4 : inB iounit 4294967295 = true) (hf5 : inB count 4294967295 = false) :
    Calls Try.prog 16 #[.agg #[.int .i64 kind, .int .i64 tag, .int .i64 code, .int .i64 msize, .int .i64 iounit, .int .i64 count, .string (st name), .bool qdir, .int .i64 qver, .int .i64 qpath, .slice Aq nq cq, .slice Ad nd cd, .bool sdir, .int .i64 sver, .int .i64 spath, .int .i64 smode, .int .i64 ssize, .string (st sname)]] w fun e w' => e = .returned (.bool false) ∧ Below w.heap.size w w' := by
  have hA0 := Blk.new w 29 [.int .i64 kind, .int .i64 tag, .int .i64 code, .int .i64 msize, .int .i64 iounit, .int .i64 count, .string (st name), .bool qdir, .int .i64 qver, .int .i64 qpath, .slice Aq nq cq, .slice Ad nd cd, .bool sdir, .int .i64 sver, .int .i64 spath, .int .i64 smode, .int .i64 ssize, .string (st sname)]
  obtain ⟨W, hW⟩ : ∃ W, W = w.alloc (.cells #[.int .i64 kind, .int .i64 tag, .int .i64 code, .int .i64 msize, .int .i64 iounit, .int .i64 count, .string (st name), .bool qdir, .int .i64 qver, .int .i64 qpath, .slice Aq nq cq, .slice Ad nd cd, .bool sdir, .int .i64 sver, .int .i64 spath, .int .i64 smode, .int .i64 ssize, .string (st sname)] 29) := ⟨_, rfl⟩
  have hW' : W = w.alloc (.cells [.int .i64 kind, .int .i64 tag, .int .i64 code, .int .i64 msize, .int .i64 iounit, .int .i64 count, .string (st name), .bool qdir, .int .i64 qver, .int .i64 qpath, .slice Aq nq cq, .slice Ad nd cd, .bool sdir, .int .i64 sver, .int .i64 spath, .int .i64 smode, .int .i64 ssize, .string (st sname)].toArray 29) := hW
  rw [← hW'] at hA0
  have hb0 : Below w.heap.size w W := by rw [hW]; exact (Below.refl _ _).alloc (Nat.le_refl _) _
  obtain ⟨gT, hgT⟩ : ∃ x, x = w.heap.size := ⟨_, rfl⟩
  rw [← hgT] at hA0
  have HA := Lib.hid hA0
  have HB := Lib.hid hb0
  have HRD := Lib.hid (hrd.up hb0)
  have HA0 := Lib.hid ha0
  clear hA0 hb0 hrd ha0
  have HA1 := Lib.hid ha1
  clear ha1
  have HALL := Lib.hid hall
  clear hall
  go_enter Try.func16, Try.ntmps16
  go_upto_region 1 with fail
  rw [← hW, ← hgT]
  clear hW hW' hgT
  go_wp2_with (refine wpList_loadBlk rfl (.tmp 1) rfl rfl (by kernel_rfl) tellT_agg HA.out ?_; simp only [Act.put, List.setIfInBounds_toArray, List.set_cons_succ, List.set_cons_zero])
  refine (own18_any kind tag code msize iounit count name qdir qver qpath qids data sdir sver spath smode ssize sname Aq nq cq Ad nd cd _).mono ?_
  rintro e w1 ⟨x, Xq, mq, dq, Xd, md, dd, hx, rfl, hXq, hXd, hb1⟩
  have hrx := own_rd hx.out hXq.out hXd.out (HRD.out.up hb1)
  have hXa : Blk (w1.alloc (.cells #[.int .i64 0, .int .i64 0, .int .i64 0, .int .i64 0, .int .i64 0, .int .i64 0, .string ⟨#[]⟩, .bool false, .int .i64 0, .int .i64 0, .slice none 0 0, .slice none 0 0, .bool false, .int .i64 0, .int .i64 0, .int .i64 0, .int .i64 0, .string ⟨#[]⟩] 29)) w1.heap.size 29 [.int .i64 0, .int .i64 0, .int .i64 0, .int .i64 0, .int .i64 0, .int .i64 0, .string ByteArray.empty, .bool false, .int .i64 0, .int .i64 0, .slice none 0 0, .slice none 0 0, .bool false, .int .i64 0, .int .i64 0, .int .i64 0, .int .i64 0, .string ByteArray.empty] := Blk.new w1 29 [.int .i64 0, .int .i64 0, .int .i64 0, .int .i64 0, .int .i64 0, .int .i64 0, .string ByteArray.empty, .bool false, .int .i64 0, .int .i64 0, .slice none 0 0, .slice none 0 0, .bool false, .int .i64 0, .int .i64 0, .int .i64 0, .int .i64 0, .string ByteArray.empty]
  have hX := hXa.setRow (tellC x Xq mq dq Xd md dd)
  have hk2 := keeps_setRow (w1.alloc (.cells #[.int .i64 0, .int .i64 0, .int .i64 0, .int .i64 0, .int .i64 0, .int .i64 0, .string ⟨#[]⟩, .bool false, .int .i64 0, .int .i64 0, .slice none 0 0, .slice none 0 0, .bool false, .int .i64 0, .int .i64 0, .int .i64 0, .int .i64 0, .string ⟨#[]⟩] 29)) (g := w1.heap.size) (tellC x Xq mq dq Xd md dd).toArray
  have hb12 : Below w1.heap.size w1 ((w1.alloc (.cells #[.int .i64 0, .int .i64 0, .int .i64 0, .int .i64 0, .int .i64 0, .int .i64 0, .string ⟨#[]⟩, .bool false, .int .i64 0, .int .i64 0, .slice none 0 0, .slice none 0 0, .bool false, .int .i64 0, .int .i64 0, .int .i64 0, .int .i64 0, .string ⟨#[]⟩] 29)).setRow w1.heap.size (tellC x Xq mq dq Xd md dd).toArray) := ((Below.refl _ _).alloc (Nat.le_refl _) _).trans (hk2.is (Nat.le_refl _) (by simp))
  have hr2 := hrx.up hb12
  have hT2 := (HA.out.up hb1).up hb12
  have hrt2 := (HRD.out.up hb1).up hb12
  have hb2 := HB.out.trans ((Up.trans hb1 hb12).mono HB.out.size)
  clear hXq hXd hb1 hrx hk2 hb12
  go_upto_region 2 with (refine wpList_storeBlk rfl (.tmp 3) (.tmp 8) rfl rfl (tellC x Xq mq dq Xd md dd) rfl rfl (by kernel_rfl) hXa rfl (tellC_ones x Xq mq dq Xd md dd) ?_)
  obtain ⟨gX, hgX⟩ : ∃ g, g = w1.heap.size := ⟨_, rfl⟩
  generalize (w1.alloc (.cells #[.int .i64 0, .int .i64 0, .int .i64 0, .int .i64 0, .int .i64 0, .int .i64 0, .string ⟨#[]⟩, .bool false, .int .i64 0, .int .i64 0, .slice none 0 0, .slice none 0 0, .bool false, .int .i64 0, .int .i64 0, .int .i64 0, .int .i64 0, .string ⟨#[]⟩] 29)).setRow w1.heap.size (tellC x Xq mq dq Xd md dd).toArray = w2 at hX hr2 hT2 hrt2 hb2 ⊢
  rw [← hgX] at hX ⊢
  have HX := Lib.hid hX
  have HT := Lib.hid hT2
  have HRX := Lib.hid hr2
  have HRT := Lib.hid hrt2
  have HB2 := Lib.hid hb2
  clear hX hT2 hr2 hrt2 hb2 hXa hgX
  go_wp2_with first
    | (refine wpList_loadBlk rfl (.tmp 3) rfl rfl (by kernel_rfl) tellT_agg HX.out ?_; simp only [Act.put, List.setIfInBounds_toArray, List.set_cons_succ, List.set_cons_zero])
    | (refine wpList_loadBlk rfl (.tmp 1) rfl rfl (by kernel_rfl) tellT_agg HT.out ?_; simp only [Act.put, List.setIfInBounds_toArray, List.set_cons_succ, List.set_cons_zero])
  refine (refSame_any x ⟨kind, tag, code, msize, iounit, count, name, ⟨qdir, qver, qpath⟩, qids, data, ⟨sdir, sver, spath⟩, smode, ssize, sname⟩ Xq mq dq Xd md dd Aq nq cq Ad nd cd _ HRX.out HRT.out).mono ?_
  rintro e w3 ⟨rfl, hb3⟩
  rw [hx.out, HA0.out]
  have HT3 := Lib.hid (HT.out.up hb3)
  have HR3 := Lib.hid (HRT.out.up hb3)
  have HB3 := Lib.hid (HB2.out.trans (hb3.mono HB2.out.size))
  clear hb3 HX HRX HT HRT
  have t0 := HT3.out.cell 0 _ rfl
  go_wp2_with fail
  refine (tFields_any kind _).mono ?_
  rintro e w4 ⟨rfl, hb4⟩
  obtain ⟨L, hL⟩ : ∃ L, L = st (fieldsM kind) := ⟨_, rfl⟩
  have hLne : ¬ L = ⟨#[]⟩ := by rw [hL]; exact st_ne HA1.out
  have hLe : L.toList.isEmpty = false := by rw [hL, ByteArray.toList_eq, st_toList]; simpa using HA1.out
  rw [← hL]
  clear hL
  have HT4 := Lib.hid (HT3.out.up hb4)
  have HR4 := Lib.hid (HR3.out.up hb4)
  have HB4 := Lib.hid (HB3.out.trans (hb4.mono HB3.out.size))
  have hsn : (st name).size = name.length := st_size name
  have hss : (st sname).size = sname.length := st_size sname
  clear hb4 t0
  have t1 := HT4.out.cell 1 _ rfl
  have t2 := HT4.out.cell 2 _ rfl
  have t6 := HT4.out.cell 6 _ rfl
  have t10 := HT4.out.cell 10 _ rfl
  have t11 := HT4.out.cell 11 _ rfl
  have t17 := HT4.out.cell 17 _ rfl
  go_wp2
  clear t1 t2 t6 t10 t11 t17 hLne hLe hsn hss
  go_loopw [5] (fun i wr => MayJ w4 nq qids i wr) (fun i _ => nq - (intOf i).toNat)
  case atStart => exact ⟨0, by omega, rfl, Lib.hid (by simp), Below.refl _ _⟩
  case round =>
    obtain ⟨j, hj, rfl, hok, hbw⟩ := hrel
    have hT := HT4.out.up hbw
    have hlq : qids.length = nq := by have := HR4.out.q.len; simpa using this
    have HLQ := Lib.hid hlq
    have t10 := hT.cell 10 _ rfl
    have HBW := Lib.hid hbw
    clear hlq hbw
    by_cases hlt : j < nq
    · have j0 : (0 : Int) ≤ j := by omega
      have j1 : (j : Int) < nq := by omega
      obtain ⟨b1, o1, r1, hA1', hb1, hr1, _, hc1⟩ := (HR4.out.q.below HBW.out).at_ hlt
      have hjl : j < qids.length := by rw [HLQ.out]; exact hlt
      obtain ⟨y, hy⟩ : ∃ y, qids[j]? = some y := ⟨_, List.getElem?_eq_getElem hjl⟩
      rw [List.getElem?_map, hy] at hr1
      obtain rfl : r1 = qidC y := (Option.some.inj hr1).symm
      have htk : qids.take (j + 1) = qids.take j ++ [y] := by rw [List.take_add_one, hy]; rfl
      have HTK := Lib.hid htk
      have HMEM := Lib.hid (List.mem_of_getElem? hy)
      subst hA1'
      have d0 := hc1 0 _ rfl
      have d1 := hc1 1 _ rfl
      have d2 := hc1 2 _ rfl
      simp only [Nat.add_zero] at d0
      clear hc1 hr1 hy hb1 htk hT
      go_wp2_with fail
      refine (tQidOk_any y _).mono ?_
      rintro e w5 ⟨rfl, hb5⟩
      have HB5 := Lib.hid (Up.trans HBW.out hb5)
      clear hb5 d0 d1 d2 t10
      have hyo : qidOk y = true := (List.all_eq_true.1 HALL.out) y HMEM.out
      rw [hyo]
      have hnx : (qids.take (j + 1)).all qidOk = true := by rw [HTK.out]; simp [hok.out, hyo]
      have HNX := Lib.hid hnx
      clear hyo hnx
      go_wp2
      go_roundw
      case rel => exact ⟨j + 1, by omega, by go_num, HNX.out, HB5.out⟩
      case measure => simp [intOf]; omega
    · obtain rfl : j = nq := by omega
      have j1 : ¬ (j : Int) < j := by omega
      have HTr := Lib.hid hT
      have HBr := Lib.hid (HB4.out.trans (HBW.out.mono HB4.out.size))
      have t7 := hT.cell 7 _ rfl
      have t8 := hT.cell 8 _ rfl
      have t9 := hT.cell 9 _ rfl
      clear hT
      go_wp2_with fail
      refine (tQidOk_any ⟨qdir, qver, qpath⟩ _).mono ?_
      rintro e w5 ⟨rfl, hb5⟩
      rw [hfq]
      have HT5 := Lib.hid (HTr.out.up hb5)
      have HB5 := Lib.hid (HBr.out.trans (hb5.mono HBr.out.size))
      clear hb5 t7 t8 t9 t10
      have t12 := HT5.out.cell 12 _ rfl
      have t13 := HT5.out.cell 13 _ rfl
      have t14 := HT5.out.cell 14 _ rfl
      go_wp2_with fail
      refine (tQidOk_any ⟨sdir, sver, spath⟩ _).mono ?_
      rintro e w6 ⟨rfl, hb6⟩
      rw [hfs]
      have HT6 := Lib.hid (HT5.out.up hb6)
      have HB6 := Lib.hid (HB5.out.trans (hb6.mono HB5.out.size))
      clear hb6 t12 t13 t14
      have t3 := HT6.out.cell 3 _ rfl
      have t4 := HT6.out.cell 4 _ rfl
      have t5 := HT6.out.cell 5 _ rfl
      have t15 := HT6.out.cell 15 _ rfl
      have t16 := HT6.out.cell 16 _ rfl
      go_wp2_with fail
      refine (tWord_any msize _).mono ?_
      rintro e w7 ⟨rfl, rfl⟩
      rw [hf3]
      go_wp2_with fail
      refine (tWord_any iounit _).mono ?_
      rintro e w7 ⟨rfl, rfl⟩
      rw [hf4]
      go_wp2_with fail
      refine (tWord_any count _).mono ?_
      rintro e w7 ⟨rfl, rfl⟩
      rw [hf5]
      go_wp2
      go_ret
      exact ⟨rfl, HB6.out⟩
set_option maxRecDepth 100000 in
set_option maxHeartbeats 8000000 in
theorem rmay_f5 (kind tag code msize iounit count : Int) (name : List UInt8) (qdir : Bool) (qver qpath : Int) (qids : List QidV) (data : List UInt8) (sdir : Bool) (sver spath smode ssize : Int) (sname : List UInt8) (Aq : Option Addr) (nq cq : Nat) (Ad : Option Addr) (nd cd : Nat) (w : World) (hrd : TellRd w ⟨kind, tag, code, msize, iounit, count, name, ⟨qdir, qver, qpath⟩, qids, data, ⟨sdir, sver, spath⟩, smode, ssize, sname⟩ Aq nq cq Ad nd cd) (ha0 : sameT (ownT ⟨kind, tag, code, msize, iounit, count, name, ⟨qdir, qver, qpath⟩, qids, data, ⟨sdir, sver, spath⟩, smode, ssize, sname⟩) ⟨kind, tag, code, msize, iounit, count, name, ⟨qdir, qver, qpath⟩, qids, data, ⟨sdir, sver, spath⟩, smode, ssize, sname⟩ = true) (ha1 : fieldsM kind ≠ []) (ha2 : ¬ tag < 0) (ha3 : ¬ 65535 < tag) (ha4 : ¬ code < 0) (ha5 : ¬ 65535 < code) (ha6 : ¬ (8 : Int) < nq) (ha7 : ¬ (1024 : Int) < nd) (ha8 : ¬ (255 : Int) < name.length) (ha9 : ¬ (255 : Int) < sname.length) (hall : qids.all qidOk = true) (hfq : qidOk ⟨qdir, qver, qpath⟩ = true) (hfs : qidOk ⟨sdir, sver, spath⟩ = true) (hf3 : inB msize 4294967295 = true) (hf4 : inB iounit 4294967295 = true) (hf5 : inB count 4294967295 = true) (hf6 : inB smode 4294967295 = false) :
    Calls Try.prog 16 #[.agg #[.int .i64 kind, .int .i64 tag, .int .i64 code, .int .i64 msize, .int .i64 iounit, .int .i64 count, .string (st name), .bool qdir, .int .i64 qver, .int .i64 qpath, .slice Aq nq cq, .slice Ad nd cd, .bool sdir, .int .i64 sver, .int .i64 spath, .int .i64 smode, .int .i64 ssize, .string (st sname)]] w fun e w' => e = .returned (.bool false) ∧ Below w.heap.size w w' := by
  have hA0 := Blk.new w 29 [.int .i64 kind, .int .i64 tag, .int .i64 code, .int .i64 msize, .int .i64 iounit, .int .i64 count, .string (st name), .bool qdir, .int .i64 qver, .int .i64 qpath, .slice Aq nq cq, .slice Ad nd cd, .bool sdir, .int .i64 sver, .int .i64 spath, .int .i64 smode, .int .i64 ssize, .string (st sname)]
  obtain ⟨W, hW⟩ : ∃ W, W = w.alloc (.cells #[.int .i64 kind, .int .i64 tag, .int .i64 code, .int .i64 msize, .int .i64 iounit, .int .i64 count, .string (st name), .bool qdir, .int .i64 qver, .int .i64 qpath, .slice Aq nq cq, .slice Ad nd cd, .bool sdir, .int .i64 sver, .int .i64 spath, .int .i64 smode, .int .i64 ssize, .string (st sname)] 29) := ⟨_, rfl⟩
  have hW' : W = w.alloc (.cells [.int .i64 kind, .int .i64 tag, .int .i64 code, .int .i64 msize, .int .i64 iounit, .int .i64 count, .string (st name), .bool qdir, .int .i64 qver, .int .i64 qpath, .slice Aq nq cq, .slice Ad nd cd, .bool sdir, .int .i64 sver, .int .i64 spath, .int .i64 smode, .int .i64 ssize, .string (st sname)].toArray 29) := hW
  rw [← hW'] at hA0
  have hb0 : Below w.heap.size w W := by rw [hW]; exact (Below.refl _ _).alloc (Nat.le_refl _) _
  obtain ⟨gT, hgT⟩ : ∃ x, x = w.heap.size := ⟨_, rfl⟩
  rw [← hgT] at hA0
  have HA := Lib.hid hA0
  have HB := Lib.hid hb0
  have HRD := Lib.hid (hrd.up hb0)
  have HA0 := Lib.hid ha0
  clear hA0 hb0 hrd ha0
  have HA1 := Lib.hid ha1
  clear ha1
  have HALL := Lib.hid hall
  clear hall
  go_enter Try.func16, Try.ntmps16
  go_upto_region 1 with fail
  rw [← hW, ← hgT]
  clear hW hW' hgT
  go_wp2_with (refine wpList_loadBlk rfl (.tmp 1) rfl rfl (by kernel_rfl) tellT_agg HA.out ?_; simp only [Act.put, List.setIfInBounds_toArray, List.set_cons_succ, List.set_cons_zero])
  refine (own18_any kind tag code msize iounit count name qdir qver qpath qids data sdir sver spath smode ssize sname Aq nq cq Ad nd cd _).mono ?_
  rintro e w1 ⟨x, Xq, mq, dq, Xd, md, dd, hx, rfl, hXq, hXd, hb1⟩
  have hrx := own_rd hx.out hXq.out hXd.out (HRD.out.up hb1)
  have hXa : Blk (w1.alloc (.cells #[.int .i64 0, .int .i64 0, .int .i64 0, .int .i64 0, .int .i64 0, .int .i64 0, .string ⟨#[]⟩, .bool false, .int .i64 0, .int .i64 0, .slice none 0 0, .slice none 0 0, .bool false, .int .i64 0, .int .i64 0, .int .i64 0, .int .i64 0, .string ⟨#[]⟩] 29)) w1.heap.size 29 [.int .i64 0, .int .i64 0, .int .i64 0, .int .i64 0, .int .i64 0, .int .i64 0, .string ByteArray.empty, .bool false, .int .i64 0, .int .i64 0, .slice none 0 0, .slice none 0 0, .bool false, .int .i64 0, .int .i64 0, .int .i64 0, .int .i64 0, .string ByteArray.empty] := Blk.new w1 29 [.int .i64 0, .int .i64 0, .int .i64 0, .int .i64 0, .int .i64 0, .int .i64 0, .string ByteArray.empty, .bool false, .int .i64 0, .int .i64 0, .slice none 0 0, .slice none 0 0, .bool false, .int .i64 0, .int .i64 0, .int .i64 0, .int .i64 0, .string ByteArray.empty]
  have hX := hXa.setRow (tellC x Xq mq dq Xd md dd)
  have hk2 := keeps_setRow (w1.alloc (.cells #[.int .i64 0, .int .i64 0, .int .i64 0, .int .i64 0, .int .i64 0, .int .i64 0, .string ⟨#[]⟩, .bool false, .int .i64 0, .int .i64 0, .slice none 0 0, .slice none 0 0, .bool false, .int .i64 0, .int .i64 0, .int .i64 0, .int .i64 0, .string ⟨#[]⟩] 29)) (g := w1.heap.size) (tellC x Xq mq dq Xd md dd).toArray
  have hb12 : Below w1.heap.size w1 ((w1.alloc (.cells #[.int .i64 0, .int .i64 0, .int .i64 0, .int .i64 0, .int .i64 0, .int .i64 0, .string ⟨#[]⟩, .bool false, .int .i64 0, .int .i64 0, .slice none 0 0, .slice none 0 0, .bool false, .int .i64 0, .int .i64 0, .int .i64 0, .int .i64 0, .string ⟨#[]⟩] 29)).setRow w1.heap.size (tellC x Xq mq dq Xd md dd).toArray) := ((Below.refl _ _).alloc (Nat.le_refl _) _).trans (hk2.is (Nat.le_refl _) (by simp))
  have hr2 := hrx.up hb12
  have hT2 := (HA.out.up hb1).up hb12
  have hrt2 := (HRD.out.up hb1).up hb12
  have hb2 := HB.out.trans ((Up.trans hb1 hb12).mono HB.out.size)
  clear hXq hXd hb1 hrx hk2 hb12
  go_upto_region 2 with (refine wpList_storeBlk rfl (.tmp 3) (.tmp 8) rfl rfl (tellC x Xq mq dq Xd md dd) rfl rfl (by kernel_rfl) hXa rfl (tellC_ones x Xq mq dq Xd md dd) ?_)
  obtain ⟨gX, hgX⟩ : ∃ g, g = w1.heap.size := ⟨_, rfl⟩
  generalize (w1.alloc (.cells #[.int .i64 0, .int .i64 0, .int .i64 0, .int .i64 0, .int .i64 0, .int .i64 0, .string ⟨#[]⟩, .bool false, .int .i64 0, .int .i64 0, .slice none 0 0, .slice none 0 0, .bool false, .int .i64 0, .int .i64 0, .int .i64 0, .int .i64 0, .string ⟨#[]⟩] 29)).setRow w1.heap.size (tellC x Xq mq dq Xd md dd).toArray = w2 at hX hr2 hT2 hrt2 hb2 ⊢
  rw [← hgX] at hX ⊢
  have HX := Lib.hid hX
  have HT := Lib.hid hT2
  have HRX := Lib.hid hr2
  have HRT := Lib.hid hrt2
  have HB2 := Lib.hid hb2
  clear hX hT2 hr2 hrt2 hb2 hXa hgX
  go_wp2_with first
    | (refine wpList_loadBlk rfl (.tmp 3) rfl rfl (by kernel_rfl) tellT_agg HX.out ?_; simp only [Act.put, List.setIfInBounds_toArray, List.set_cons_succ, List.set_cons_zero])
    | (refine wpList_loadBlk rfl (.tmp 1) rfl rfl (by kernel_rfl) tellT_agg HT.out ?_; simp only [Act.put, List.setIfInBounds_toArray, List.set_cons_succ, List.set_cons_zero])
  refine (refSame_any x ⟨kind, tag, code, msize, iounit, count, name, ⟨qdir, qver, qpath⟩, qids, data, ⟨sdir, sver, spath⟩, smode, ssize, sname⟩ Xq mq dq Xd md dd Aq nq cq Ad nd cd _ HRX.out HRT.out).mono ?_
  rintro e w3 ⟨rfl, hb3⟩
  rw [hx.out, HA0.out]
  have HT3 := Lib.hid (HT.out.up hb3)
  have HR3 := Lib.hid (HRT.out.up hb3)
  have HB3 := Lib.hid (HB2.out.trans (hb3.mono HB2.out.size))
  clear hb3 HX HRX HT HRT
  have t0 := HT3.out.cell 0 _ rfl
  go_wp2_with fail
  refine (tFields_any kind _).mono ?_
  rintro e w4 ⟨rfl, hb4⟩
  obtain ⟨L, hL⟩ : ∃ L, L = st (fieldsM kind) := ⟨_, rfl⟩
  have hLne : ¬ L = ⟨#[]⟩ := by rw [hL]; exact st_ne HA1.out
  have hLe : L.toList.isEmpty = false := by rw [hL, ByteArray.toList_eq, st_toList]; simpa using HA1.out
  rw [← hL]
  clear hL
  have HT4 := Lib.hid (HT3.out.up hb4)
  have HR4 := Lib.hid (HR3.out.up hb4)
  have HB4 := Lib.hid (HB3.out.trans (hb4.mono HB3.out.size))
  have hsn : (st name).size = name.length := st_size name
  have hss : (st sname).size = sname.length := st_size sname
  clear hb4 t0
  have t1 := HT4.out.cell 1 _ rfl
  have t2 := HT4.out.cell 2 _ rfl
  have t6 := HT4.out.cell 6 _ rfl
  have t10 := HT4.out.cell 10 _ rfl
  have t11 := HT4.out.cell 11 _ rfl
  have t17 := HT4.out.cell 17 _ rfl
  go_wp2
  clear t1 t2 t6 t10 t11 t17 hLne hLe hsn hss
  go_loopw [5] (fun i wr => MayJ w4 nq qids i wr) (fun i _ => nq - (intOf i).toNat)
  case atStart => exact ⟨0, by omega, rfl, Lib.hid (by simp), Below.refl _ _⟩
  case round =>
    obtain ⟨j, hj, rfl, hok, hbw⟩ := hrel
    have hT := HT4.out.up hbw
    have hlq : qids.length = nq := by have := HR4.out.q.len; simpa using this
    have HLQ := Lib.hid hlq
    have t10 := hT.cell 10 _ rfl
    have HBW := Lib.hid hbw
    clear hlq hbw
    by_cases hlt : j < nq
    · have j0 : (0 : Int) ≤ j := by omega
      have j1 : (j : Int) < nq := by omega
      obtain ⟨b1, o1, r1, hA1', hb1, hr1, _, hc1⟩ := (HR4.out.q.below HBW.out).at_ hlt
      have hjl : j < qids.length := by rw [HLQ.out]; exact hlt
      obtain ⟨y, hy⟩ : ∃ y, qids[j]? = some y := ⟨_, List.getElem?_eq_getElem hjl⟩
      rw [List.getElem?_map, hy] at hr1
      obtain rfl : r1 = qidC y := (Option.some.inj hr1).symm
      have htk : qids.take (j + 1) = qids.take j ++ [y] := by rw [List.take_add_one, hy]; rfl
      have HTK := Lib.hid htk
      have HMEM := Lib.hid (List.mem_of_getElem? hy)
      subst hA1'
      have d0 := hc1 0 _ rfl
      have d1 := hc1 1 _ rfl
      have d2 := hc1 2 _ rfl
      simp only [Nat.add_zero] at d0
      clear hc1 hr1 hy hb1 htk hT
      go_wp2_with fail
      refine (tQidOk_any y _).mono ?_
      rintro e w5 ⟨rfl, hb5⟩
      have HB5 := Lib.hid (Up.trans HBW.out hb5)
      clear hb5 d0 d1 d2 t10
      have hyo : qidOk y = true := (List.all_eq_true.1 HALL.out) y HMEM.out
      rw [hyo]
      have hnx : (qids.take (j + 1)).all qidOk = true := by rw [HTK.out]; simp [hok.out, hyo]
      have HNX := Lib.hid hnx
      clear hyo hnx
      go_wp2
      go_roundw
      case rel => exact ⟨j + 1, by omega, by go_num, HNX.out, HB5.out⟩
      case measure => simp [intOf]; omega
    · obtain rfl : j = nq := by omega
      have j1 : ¬ (j : Int) < j := by omega
      have HTr := Lib.hid hT
      have HBr := Lib.hid (HB4.out.trans (HBW.out.mono HB4.out.size))
      have t7 := hT.cell 7 _ rfl
      have t8 := hT.cell 8 _ rfl
      have t9 := hT.cell 9 _ rfl
      clear hT
      go_wp2_with fail
      refine (tQidOk_any ⟨qdir, qver, qpath⟩ _).mono ?_
      rintro e w5 ⟨rfl, hb5⟩
      rw [hfq]
      have HT5 := Lib.hid (HTr.out.up hb5)
      have HB5 := Lib.hid (HBr.out.trans (hb5.mono HBr.out.size))
      clear hb5 t7 t8 t9 t10
      have t12 := HT5.out.cell 12 _ rfl
      have t13 := HT5.out.cell 13 _ rfl
      have t14 := HT5.out.cell 14 _ rfl
      go_wp2_with fail
      refine (tQidOk_any ⟨sdir, sver, spath⟩ _).mono ?_
      rintro e w6 ⟨rfl, hb6⟩
      rw [hfs]
      have HT6 := Lib.hid (HT5.out.up hb6)
      have HB6 := Lib.hid (HB5.out.trans (hb6.mono HB5.out.size))
      clear hb6 t12 t13 t14
      have t3 := HT6.out.cell 3 _ rfl
      have t4 := HT6.out.cell 4 _ rfl
      have t5 := HT6.out.cell 5 _ rfl
      have t15 := HT6.out.cell 15 _ rfl
      have t16 := HT6.out.cell 16 _ rfl
      go_wp2_with fail
      refine (tWord_any msize _).mono ?_
      rintro e w7 ⟨rfl, rfl⟩
      rw [hf3]
      go_wp2_with fail
      refine (tWord_any iounit _).mono ?_
      rintro e w7 ⟨rfl, rfl⟩
      rw [hf4]
      go_wp2_with fail
      refine (tWord_any count _).mono ?_
      rintro e w7 ⟨rfl, rfl⟩
      rw [hf5]
      go_wp2_with fail
      refine (tWord_any smode _).mono ?_
      rintro e w7 ⟨rfl, rfl⟩
      rw [hf6]
      go_wp2
      go_ret
      exact ⟨rfl, HB6.out⟩
set_option maxRecDepth 100000 in
set_option maxHeartbeats 8000000 in
theorem rmay_f6 (kind tag code msize iounit count : Int) (name : List UInt8) (qdir : Bool) (qver qpath : Int) (qids : List QidV) (data : List UInt8) (sdir : Bool) (sver spath smode ssize : Int) (sname : List UInt8) (Aq : Option Addr) (nq cq : Nat) (Ad : Option Addr) (nd cd : Nat) (w : World) (hrd : TellRd w ⟨kind, tag, code, msize, iounit, count, name, ⟨qdir, qver, qpath⟩, qids, data, ⟨sdir, sver, spath⟩, smode, ssize, sname⟩ Aq nq cq Ad nd cd) (ha0 : sameT (ownT ⟨kind, tag, code, msize, iounit, count, name, ⟨qdir, qver, qpath⟩, qids, data, ⟨sdir, sver, spath⟩, smode, ssize, sname⟩) ⟨kind, tag, code, msize, iounit, count, name, ⟨qdir, qver, qpath⟩, qids, data, ⟨sdir, sver, spath⟩, smode, ssize, sname⟩ = true) (ha1 : fieldsM kind ≠ []) (ha2 : ¬ tag < 0) (ha3 : ¬ 65535 < tag) (ha4 : ¬ code < 0) (ha5 : ¬ 65535 < code) (ha6 : ¬ (8 : Int) < nq) (ha7 : ¬ (1024 : Int) < nd) (ha8 : ¬ (255 : Int) < name.length) (ha9 : ¬ (255 : Int) < sname.length) (hall : qids.all qidOk = true) (hfq : qidOk ⟨qdir, qver, qpath⟩ = true) (hfs : qidOk ⟨sdir, sver, spath⟩ = true) (hf3 : inB msize 4294967295 = true) (hf4 : inB iounit 4294967295 = true) (hf5 : inB count 4294967295 = true) (hf6 : inB smode 4294967295 = true) (hf7 : inB ssize 4611686018427387904 = false) :
    Calls Try.prog 16 #[.agg #[.int .i64 kind, .int .i64 tag, .int .i64 code, .int .i64 msize, .int .i64 iounit, .int .i64 count, .string (st name), .bool qdir, .int .i64 qver, .int .i64 qpath, .slice Aq nq cq, .slice Ad nd cd, .bool sdir, .int .i64 sver, .int .i64 spath, .int .i64 smode, .int .i64 ssize, .string (st sname)]] w fun e w' => e = .returned (.bool false) ∧ Below w.heap.size w w' := by
  have hA0 := Blk.new w 29 [.int .i64 kind, .int .i64 tag, .int .i64 code, .int .i64 msize, .int .i64 iounit, .int .i64 count, .string (st name), .bool qdir, .int .i64 qver, .int .i64 qpath, .slice Aq nq cq, .slice Ad nd cd, .bool sdir, .int .i64 sver, .int .i64 spath, .int .i64 smode, .int .i64 ssize, .string (st sname)]
  obtain ⟨W, hW⟩ : ∃ W, W = w.alloc (.cells #[.int .i64 kind, .int .i64 tag, .int .i64 code, .int .i64 msize, .int .i64 iounit, .int .i64 count, .string (st name), .bool qdir, .int .i64 qver, .int .i64 qpath, .slice Aq nq cq, .slice Ad nd cd, .bool sdir, .int .i64 sver, .int .i64 spath, .int .i64 smode, .int .i64 ssize, .string (st sname)] 29) := ⟨_, rfl⟩
  have hW' : W = w.alloc (.cells [.int .i64 kind, .int .i64 tag, .int .i64 code, .int .i64 msize, .int .i64 iounit, .int .i64 count, .string (st name), .bool qdir, .int .i64 qver, .int .i64 qpath, .slice Aq nq cq, .slice Ad nd cd, .bool sdir, .int .i64 sver, .int .i64 spath, .int .i64 smode, .int .i64 ssize, .string (st sname)].toArray 29) := hW
  rw [← hW'] at hA0
  have hb0 : Below w.heap.size w W := by rw [hW]; exact (Below.refl _ _).alloc (Nat.le_refl _) _
  obtain ⟨gT, hgT⟩ : ∃ x, x = w.heap.size := ⟨_, rfl⟩
  rw [← hgT] at hA0
  have HA := Lib.hid hA0
  have HB := Lib.hid hb0
  have HRD := Lib.hid (hrd.up hb0)
  have HA0 := Lib.hid ha0
  clear hA0 hb0 hrd ha0
  have HA1 := Lib.hid ha1
  clear ha1
  have HALL := Lib.hid hall
  clear hall
  go_enter Try.func16, Try.ntmps16
  go_upto_region 1 with fail
  rw [← hW, ← hgT]
  clear hW hW' hgT
  go_wp2_with (refine wpList_loadBlk rfl (.tmp 1) rfl rfl (by kernel_rfl) tellT_agg HA.out ?_; simp only [Act.put, List.setIfInBounds_toArray, List.set_cons_succ, List.set_cons_zero])
  refine (own18_any kind tag code msize iounit count name qdir qver qpath qids data sdir sver spath smode ssize sname Aq nq cq Ad nd cd _).mono ?_
  rintro e w1 ⟨x, Xq, mq, dq, Xd, md, dd, hx, rfl, hXq, hXd, hb1⟩
  have hrx := own_rd hx.out hXq.out hXd.out (HRD.out.up hb1)
  have hXa : Blk (w1.alloc (.cells #[.int .i64 0, .int .i64 0, .int .i64 0, .int .i64 0, .int .i64 0, .int .i64 0, .string ⟨#[]⟩, .bool false, .int .i64 0, .int .i64 0, .slice none 0 0, .slice none 0 0, .bool false, .int .i64 0, .int .i64 0, .int .i64 0, .int .i64 0, .string ⟨#[]⟩] 29)) w1.heap.size 29 [.int .i64 0, .int .i64 0, .int .i64 0, .int .i64 0, .int .i64 0, .int .i64 0, .string ByteArray.empty, .bool false, .int .i64 0, .int .i64 0, .slice none 0 0, .slice none 0 0, .bool false, .int .i64 0, .int .i64 0, .int .i64 0, .int .i64 0, .string ByteArray.empty] := Blk.new w1 29 [.int .i64 0, .int .i64 0, .int .i64 0, .int .i64 0, .int .i64 0, .int .i64 0, .string ByteArray.empty, .bool false, .int .i64 0, .int .i64 0, .slice none 0 0, .slice none 0 0, .bool false, .int .i64 0, .int .i64 0, .int .i64 0, .int .i64 0, .string ByteArray.empty]
  have hX := hXa.setRow (tellC x Xq mq dq Xd md dd)
  have hk2 := keeps_setRow (w1.alloc (.cells #[.int .i64 0, .int .i64 0, .int .i64 0, .int .i64 0, .int .i64 0, .int .i64 0, .string ⟨#[]⟩, .bool false, .int .i64 0, .int .i64 0, .slice none 0 0, .slice none 0 0, .bool false, .int .i64 0, .int .i64 0, .int .i64 0, .int .i64 0, .string ⟨#[]⟩] 29)) (g := w1.heap.size) (tellC x Xq mq dq Xd md dd).toArray
  have hb12 : Below w1.heap.size w1 ((w1.alloc (.cells #[.int .i64 0, .int .i64 0, .int .i64 0, .int .i64 0, .int .i64 0, .int .i64 0, .string ⟨#[]⟩, .bool false, .int .i64 0, .int .i64 0, .slice none 0 0, .slice none 0 0, .bool false, .int .i64 0, .int .i64 0, .int .i64 0, .int .i64 0, .string ⟨#[]⟩] 29)).setRow w1.heap.size (tellC x Xq mq dq Xd md dd).toArray) := ((Below.refl _ _).alloc (Nat.le_refl _) _).trans (hk2.is (Nat.le_refl _) (by simp))
  have hr2 := hrx.up hb12
  have hT2 := (HA.out.up hb1).up hb12
  have hrt2 := (HRD.out.up hb1).up hb12
  have hb2 := HB.out.trans ((Up.trans hb1 hb12).mono HB.out.size)
  clear hXq hXd hb1 hrx hk2 hb12
  go_upto_region 2 with (refine wpList_storeBlk rfl (.tmp 3) (.tmp 8) rfl rfl (tellC x Xq mq dq Xd md dd) rfl rfl (by kernel_rfl) hXa rfl (tellC_ones x Xq mq dq Xd md dd) ?_)
  obtain ⟨gX, hgX⟩ : ∃ g, g = w1.heap.size := ⟨_, rfl⟩
  generalize (w1.alloc (.cells #[.int .i64 0, .int .i64 0, .int .i64 0, .int .i64 0, .int .i64 0, .int .i64 0, .string ⟨#[]⟩, .bool false, .int .i64 0, .int .i64 0, .slice none 0 0, .slice none 0 0, .bool false, .int .i64 0, .int .i64 0, .int .i64 0, .int .i64 0, .string ⟨#[]⟩] 29)).setRow w1.heap.size (tellC x Xq mq dq Xd md dd).toArray = w2 at hX hr2 hT2 hrt2 hb2 ⊢
  rw [← hgX] at hX ⊢
  have HX := Lib.hid hX
  have HT := Lib.hid hT2
  have HRX := Lib.hid hr2
  have HRT := Lib.hid hrt2
  have HB2 := Lib.hid hb2
  clear hX hT2 hr2 hrt2 hb2 hXa hgX
  go_wp2_with first
    | (refine wpList_loadBlk rfl (.tmp 3) rfl rfl (by kernel_rfl) tellT_agg HX.out ?_; simp only [Act.put, List.setIfInBounds_toArray, List.set_cons_succ, List.set_cons_zero])
    | (refine wpList_loadBlk rfl (.tmp 1) rfl rfl (by kernel_rfl) tellT_agg HT.out ?_; simp only [Act.put, List.setIfInBounds_toArray, List.set_cons_succ, List.set_cons_zero])
  refine (refSame_any x ⟨kind, tag, code, msize, iounit, count, name, ⟨qdir, qver, qpath⟩, qids, data, ⟨sdir, sver, spath⟩, smode, ssize, sname⟩ Xq mq dq Xd md dd Aq nq cq Ad nd cd _ HRX.out HRT.out).mono ?_
  rintro e w3 ⟨rfl, hb3⟩
  rw [hx.out, HA0.out]
  have HT3 := Lib.hid (HT.out.up hb3)
  have HR3 := Lib.hid (HRT.out.up hb3)
  have HB3 := Lib.hid (HB2.out.trans (hb3.mono HB2.out.size))
  clear hb3 HX HRX HT HRT
  have t0 := HT3.out.cell 0 _ rfl
  go_wp2_with fail
  refine (tFields_any kind _).mono ?_
  rintro e w4 ⟨rfl, hb4⟩
  obtain ⟨L, hL⟩ : ∃ L, L = st (fieldsM kind) := ⟨_, rfl⟩
  have hLne : ¬ L = ⟨#[]⟩ := by rw [hL]; exact st_ne HA1.out
  have hLe : L.toList.isEmpty = false := by rw [hL, ByteArray.toList_eq, st_toList]; simpa using HA1.out
  rw [← hL]
  clear hL
  have HT4 := Lib.hid (HT3.out.up hb4)
  have HR4 := Lib.hid (HR3.out.up hb4)
  have HB4 := Lib.hid (HB3.out.trans (hb4.mono HB3.out.size))
  have hsn : (st name).size = name.length := st_size name
  have hss : (st sname).size = sname.length := st_size sname
  clear hb4 t0
  have t1 := HT4.out.cell 1 _ rfl
  have t2 := HT4.out.cell 2 _ rfl
  have t6 := HT4.out.cell 6 _ rfl
  have t10 := HT4.out.cell 10 _ rfl
  have t11 := HT4.out.cell 11 _ rfl
  have t17 := HT4.out.cell 17 _ rfl
  go_wp2
  clear t1 t2 t6 t10 t11 t17 hLne hLe hsn hss
  go_loopw [5] (fun i wr => MayJ w4 nq qids i wr) (fun i _ => nq - (intOf i).toNat)
  case atStart => exact ⟨0, by omega, rfl, Lib.hid (by simp), Below.refl _ _⟩
  case round =>
    obtain ⟨j, hj, rfl, hok, hbw⟩ := hrel
    have hT := HT4.out.up hbw
    have hlq : qids.length = nq := by have := HR4.out.q.len; simpa using this
    have HLQ := Lib.hid hlq
    have t10 := hT.cell 10 _ rfl
    have HBW := Lib.hid hbw
    clear hlq hbw
    by_cases hlt : j < nq
    · have j0 : (0 : Int) ≤ j := by omega
      have j1 : (j : Int) < nq := by omega
      obtain ⟨b1, o1, r1, hA1', hb1, hr1, _, hc1⟩ := (HR4.out.q.below HBW.out).at_ hlt
      have hjl : j < qids.length := by rw [HLQ.out]; exact hlt
      obtain ⟨y, hy⟩ : ∃ y, qids[j]? = some y := ⟨_, List.getElem?_eq_getElem hjl⟩
      rw [List.getElem?_map, hy] at hr1
      obtain rfl : r1 = qidC y := (Option.some.inj hr1).symm
      have htk : qids.take (j + 1) = qids.take j ++ [y] := by rw [List.take_add_one, hy]; rfl
      have HTK := Lib.hid htk
      have HMEM := Lib.hid (List.mem_of_getElem? hy)
      subst hA1'
      have d0 := hc1 0 _ rfl
      have d1 := hc1 1 _ rfl
      have d2 := hc1 2 _ rfl
      simp only [Nat.add_zero] at d0
      clear hc1 hr1 hy hb1 htk hT
      go_wp2_with fail
      refine (tQidOk_any y _).mono ?_
      rintro e w5 ⟨rfl, hb5⟩
      have HB5 := Lib.hid (Up.trans HBW.out hb5)
      clear hb5 d0 d1 d2 t10
      have hyo : qidOk y = true := (List.all_eq_true.1 HALL.out) y HMEM.out
      rw [hyo]
      have hnx : (qids.take (j + 1)).all qidOk = true := by rw [HTK.out]; simp [hok.out, hyo]
      have HNX := Lib.hid hnx
      clear hyo hnx
      go_wp2
      go_roundw
      case rel => exact ⟨j + 1, by omega, by go_num, HNX.out, HB5.out⟩
      case measure => simp [intOf]; omega
    · obtain rfl : j = nq := by omega
      have j1 : ¬ (j : Int) < j := by omega
      have HTr := Lib.hid hT
      have HBr := Lib.hid (HB4.out.trans (HBW.out.mono HB4.out.size))
      have t7 := hT.cell 7 _ rfl
      have t8 := hT.cell 8 _ rfl
      have t9 := hT.cell 9 _ rfl
      clear hT
      go_wp2_with fail
      refine (tQidOk_any ⟨qdir, qver, qpath⟩ _).mono ?_
      rintro e w5 ⟨rfl, hb5⟩
      rw [hfq]
      have HT5 := Lib.hid (HTr.out.up hb5)
      have HB5 := Lib.hid (HBr.out.trans (hb5.mono HBr.out.size))
      clear hb5 t7 t8 t9 t10
      have t12 := HT5.out.cell 12 _ rfl
      have t13 := HT5.out.cell 13 _ rfl
      have t14 := HT5.out.cell 14 _ rfl
      go_wp2_with fail
      refine (tQidOk_any ⟨sdir, sver, spath⟩ _).mono ?_
      rintro e w6 ⟨rfl, hb6⟩
      rw [hfs]
      have HT6 := Lib.hid (HT5.out.up hb6)
      have HB6 := Lib.hid (HB5.out.trans (hb6.mono HB5.out.size))
      clear hb6 t12 t13 t14
      have t3 := HT6.out.cell 3 _ rfl
      have t4 := HT6.out.cell 4 _ rfl
      have t5 := HT6.out.cell 5 _ rfl
      have t15 := HT6.out.cell 15 _ rfl
      have t16 := HT6.out.cell 16 _ rfl
      go_wp2_with fail
      refine (tWord_any msize _).mono ?_
      rintro e w7 ⟨rfl, rfl⟩
      rw [hf3]
      go_wp2_with fail
      refine (tWord_any iounit _).mono ?_
      rintro e w7 ⟨rfl, rfl⟩
      rw [hf4]
      go_wp2_with fail
      refine (tWord_any count _).mono ?_
      rintro e w7 ⟨rfl, rfl⟩
      rw [hf5]
      go_wp2_with fail
      refine (tWord_any smode _).mono ?_
      rintro e w7 ⟨rfl, rfl⟩
      rw [hf6]
      go_wp2_with fail
      refine (tLong_any ssize _).mono ?_
      rintro e w7 ⟨rfl, rfl⟩
      rw [hf7]
      go_wp2
      go_ret
      exact ⟨rfl, HB6.out⟩
set_option maxRecDepth 100000 in
set_option maxHeartbeats 8000000 in
theorem rmay_t (kind tag code msize iounit count : Int) (name : List UInt8) (qdir : Bool) (qver qpath : Int) (qids : List QidV) (data : List UInt8) (sdir : Bool) (sver spath smode ssize : Int) (sname : List UInt8) (Aq : Option Addr) (nq cq : Nat) (Ad : Option Addr) (nd cd : Nat) (w : World) (hrd : TellRd w ⟨kind, tag, code, msize, iounit, count, name, ⟨qdir, qver, qpath⟩, qids, data, ⟨sdir, sver, spath⟩, smode, ssize, sname⟩ Aq nq cq Ad nd cd) (ha0 : sameT (ownT ⟨kind, tag, code, msize, iounit, count, name, ⟨qdir, qver, qpath⟩, qids, data, ⟨sdir, sver, spath⟩, smode, ssize, sname⟩) ⟨kind, tag, code, msize, iounit, count, name, ⟨qdir, qver, qpath⟩, qids, data, ⟨sdir, sver, spath⟩, smode, ssize, sname⟩ = true) (ha1 : fieldsM kind ≠ []) (ha2 : ¬ tag < 0) (ha3 : ¬ 65535 < tag) (ha4 : ¬ code < 0) (ha5 : ¬ 65535 < code) (ha6 : ¬ (8 : Int) < nq) (ha7 : ¬ (1024 : Int) < nd) (ha8 : ¬ (255 : Int) < name.length) (ha9 : ¬ (255 : Int) < sname.length) (hall : qids.all qidOk = true) (hfq : qidOk ⟨qdir, qver, qpath⟩ = true) (hfs : qidOk ⟨sdir, sver, spath⟩ = true) (hf3 : inB msize 4294967295 = true) (hf4 : inB iounit 4294967295 = true) (hf5 : inB count 4294967295 = true) (hf6 : inB smode 4294967295 = true) (hf7 : inB ssize 4611686018427387904 = true) :
    Calls Try.prog 16 #[.agg #[.int .i64 kind, .int .i64 tag, .int .i64 code, .int .i64 msize, .int .i64 iounit, .int .i64 count, .string (st name), .bool qdir, .int .i64 qver, .int .i64 qpath, .slice Aq nq cq, .slice Ad nd cd, .bool sdir, .int .i64 sver, .int .i64 spath, .int .i64 smode, .int .i64 ssize, .string (st sname)]] w fun e w' => e = .returned (.bool true) ∧ Below w.heap.size w w' := by
  have hA0 := Blk.new w 29 [.int .i64 kind, .int .i64 tag, .int .i64 code, .int .i64 msize, .int .i64 iounit, .int .i64 count, .string (st name), .bool qdir, .int .i64 qver, .int .i64 qpath, .slice Aq nq cq, .slice Ad nd cd, .bool sdir, .int .i64 sver, .int .i64 spath, .int .i64 smode, .int .i64 ssize, .string (st sname)]
  obtain ⟨W, hW⟩ : ∃ W, W = w.alloc (.cells #[.int .i64 kind, .int .i64 tag, .int .i64 code, .int .i64 msize, .int .i64 iounit, .int .i64 count, .string (st name), .bool qdir, .int .i64 qver, .int .i64 qpath, .slice Aq nq cq, .slice Ad nd cd, .bool sdir, .int .i64 sver, .int .i64 spath, .int .i64 smode, .int .i64 ssize, .string (st sname)] 29) := ⟨_, rfl⟩
  have hW' : W = w.alloc (.cells [.int .i64 kind, .int .i64 tag, .int .i64 code, .int .i64 msize, .int .i64 iounit, .int .i64 count, .string (st name), .bool qdir, .int .i64 qver, .int .i64 qpath, .slice Aq nq cq, .slice Ad nd cd, .bool sdir, .int .i64 sver, .int .i64 spath, .int .i64 smode, .int .i64 ssize, .string (st sname)].toArray 29) := hW
  rw [← hW'] at hA0
  have hb0 : Below w.heap.size w W := by rw [hW]; exact (Below.refl _ _).alloc (Nat.le_refl _) _
  obtain ⟨gT, hgT⟩ : ∃ x, x = w.heap.size := ⟨_, rfl⟩
  rw [← hgT] at hA0
  have HA := Lib.hid hA0
  have HB := Lib.hid hb0
  have HRD := Lib.hid (hrd.up hb0)
  have HA0 := Lib.hid ha0
  clear hA0 hb0 hrd ha0
  have HA1 := Lib.hid ha1
  clear ha1
  have HALL := Lib.hid hall
  clear hall
  go_enter Try.func16, Try.ntmps16
  go_upto_region 1 with fail
  rw [← hW, ← hgT]
  clear hW hW' hgT
  go_wp2_with (refine wpList_loadBlk rfl (.tmp 1) rfl rfl (by kernel_rfl) tellT_agg HA.out ?_; simp only [Act.put, List.setIfInBounds_toArray, List.set_cons_succ, List.set_cons_zero])
  refine (own18_any kind tag code msize iounit count name qdir qver qpath qids data sdir sver spath smode ssize sname Aq nq cq Ad nd cd _).mono ?_
  rintro e w1 ⟨x, Xq, mq, dq, Xd, md, dd, hx, rfl, hXq, hXd, hb1⟩
  have hrx := own_rd hx.out hXq.out hXd.out (HRD.out.up hb1)
  have hXa : Blk (w1.alloc (.cells #[.int .i64 0, .int .i64 0, .int .i64 0, .int .i64 0, .int .i64 0, .int .i64 0, .string ⟨#[]⟩, .bool false, .int .i64 0, .int .i64 0, .slice none 0 0, .slice none 0 0, .bool false, .int .i64 0, .int .i64 0, .int .i64 0, .int .i64 0, .string ⟨#[]⟩] 29)) w1.heap.size 29 [.int .i64 0, .int .i64 0, .int .i64 0, .int .i64 0, .int .i64 0, .int .i64 0, .string ByteArray.empty, .bool false, .int .i64 0, .int .i64 0, .slice none 0 0, .slice none 0 0, .bool false, .int .i64 0, .int .i64 0, .int .i64 0, .int .i64 0, .string ByteArray.empty] := Blk.new w1 29 [.int .i64 0, .int .i64 0, .int .i64 0, .int .i64 0, .int .i64 0, .int .i64 0, .string ByteArray.empty, .bool false, .int .i64 0, .int .i64 0, .slice none 0 0, .slice none 0 0, .bool false, .int .i64 0, .int .i64 0, .int .i64 0, .int .i64 0, .string ByteArray.empty]
  have hX := hXa.setRow (tellC x Xq mq dq Xd md dd)
  have hk2 := keeps_setRow (w1.alloc (.cells #[.int .i64 0, .int .i64 0, .int .i64 0, .int .i64 0, .int .i64 0, .int .i64 0, .string ⟨#[]⟩, .bool false, .int .i64 0, .int .i64 0, .slice none 0 0, .slice none 0 0, .bool false, .int .i64 0, .int .i64 0, .int .i64 0, .int .i64 0, .string ⟨#[]⟩] 29)) (g := w1.heap.size) (tellC x Xq mq dq Xd md dd).toArray
  have hb12 : Below w1.heap.size w1 ((w1.alloc (.cells #[.int .i64 0, .int .i64 0, .int .i64 0, .int .i64 0, .int .i64 0, .int .i64 0, .string ⟨#[]⟩, .bool false, .int .i64 0, .int .i64 0, .slice none 0 0, .slice none 0 0, .bool false, .int .i64 0, .int .i64 0, .int .i64 0, .int .i64 0, .string ⟨#[]⟩] 29)).setRow w1.heap.size (tellC x Xq mq dq Xd md dd).toArray) := ((Below.refl _ _).alloc (Nat.le_refl _) _).trans (hk2.is (Nat.le_refl _) (by simp))
  have hr2 := hrx.up hb12
  have hT2 := (HA.out.up hb1).up hb12
  have hrt2 := (HRD.out.up hb1).up hb12
  have hb2 := HB.out.trans ((Up.trans hb1 hb12).mono HB.out.size)
  clear hXq hXd hb1 hrx hk2 hb12
  go_upto_region 2 with (refine wpList_storeBlk rfl (.tmp 3) (.tmp 8) rfl rfl (tellC x Xq mq dq Xd md dd) rfl rfl (by kernel_rfl) hXa rfl (tellC_ones x Xq mq dq Xd md dd) ?_)
  obtain ⟨gX, hgX⟩ : ∃ g, g = w1.heap.size := ⟨_, rfl⟩
  generalize (w1.alloc (.cells #[.int .i64 0, .int .i64 0, .int .i64 0, .int .i64 0, .int .i64 0, .int .i64 0, .string ⟨#[]⟩, .bool false, .int .i64 0, .int .i64 0, .slice none 0 0, .slice none 0 0, .bool false, .int .i64 0, .int .i64 0, .int .i64 0, .int .i64 0, .string ⟨#[]⟩] 29)).setRow w1.heap.size (tellC x Xq mq dq Xd md dd).toArray = w2 at hX hr2 hT2 hrt2 hb2 ⊢
  rw [← hgX] at hX ⊢
  have HX := Lib.hid hX
  have HT := Lib.hid hT2
  have HRX := Lib.hid hr2
  have HRT := Lib.hid hrt2
  have HB2 := Lib.hid hb2
  clear hX hT2 hr2 hrt2 hb2 hXa hgX
  go_wp2_with first
    | (refine wpList_loadBlk rfl (.tmp 3) rfl rfl (by kernel_rfl) tellT_agg HX.out ?_; simp only [Act.put, List.setIfInBounds_toArray, List.set_cons_succ, List.set_cons_zero])
    | (refine wpList_loadBlk rfl (.tmp 1) rfl rfl (by kernel_rfl) tellT_agg HT.out ?_; simp only [Act.put, List.setIfInBounds_toArray, List.set_cons_succ, List.set_cons_zero])
  refine (refSame_any x ⟨kind, tag, code, msize, iounit, count, name, ⟨qdir, qver, qpath⟩, qids, data, ⟨sdir, sver, spath⟩, smode, ssize, sname⟩ Xq mq dq Xd md dd Aq nq cq Ad nd cd _ HRX.out HRT.out).mono ?_
  rintro e w3 ⟨rfl, hb3⟩
  rw [hx.out, HA0.out]
  have HT3 := Lib.hid (HT.out.up hb3)
  have HR3 := Lib.hid (HRT.out.up hb3)
  have HB3 := Lib.hid (HB2.out.trans (hb3.mono HB2.out.size))
  clear hb3 HX HRX HT HRT
  have t0 := HT3.out.cell 0 _ rfl
  go_wp2_with fail
  refine (tFields_any kind _).mono ?_
  rintro e w4 ⟨rfl, hb4⟩
  obtain ⟨L, hL⟩ : ∃ L, L = st (fieldsM kind) := ⟨_, rfl⟩
  have hLne : ¬ L = ⟨#[]⟩ := by rw [hL]; exact st_ne HA1.out
  have hLe : L.toList.isEmpty = false := by rw [hL, ByteArray.toList_eq, st_toList]; simpa using HA1.out
  rw [← hL]
  clear hL
  have HT4 := Lib.hid (HT3.out.up hb4)
  have HR4 := Lib.hid (HR3.out.up hb4)
  have HB4 := Lib.hid (HB3.out.trans (hb4.mono HB3.out.size))
  have hsn : (st name).size = name.length := st_size name
  have hss : (st sname).size = sname.length := st_size sname
  clear hb4 t0
  have t1 := HT4.out.cell 1 _ rfl
  have t2 := HT4.out.cell 2 _ rfl
  have t6 := HT4.out.cell 6 _ rfl
  have t10 := HT4.out.cell 10 _ rfl
  have t11 := HT4.out.cell 11 _ rfl
  have t17 := HT4.out.cell 17 _ rfl
  go_wp2
  clear t1 t2 t6 t10 t11 t17 hLne hLe hsn hss
  go_loopw [5] (fun i wr => MayJ w4 nq qids i wr) (fun i _ => nq - (intOf i).toNat)
  case atStart => exact ⟨0, by omega, rfl, Lib.hid (by simp), Below.refl _ _⟩
  case round =>
    obtain ⟨j, hj, rfl, hok, hbw⟩ := hrel
    have hT := HT4.out.up hbw
    have hlq : qids.length = nq := by have := HR4.out.q.len; simpa using this
    have HLQ := Lib.hid hlq
    have t10 := hT.cell 10 _ rfl
    have HBW := Lib.hid hbw
    clear hlq hbw
    by_cases hlt : j < nq
    · have j0 : (0 : Int) ≤ j := by omega
      have j1 : (j : Int) < nq := by omega
      obtain ⟨b1, o1, r1, hA1', hb1, hr1, _, hc1⟩ := (HR4.out.q.below HBW.out).at_ hlt
      have hjl : j < qids.length := by rw [HLQ.out]; exact hlt
      obtain ⟨y, hy⟩ : ∃ y, qids[j]? = some y := ⟨_, List.getElem?_eq_getElem hjl⟩
      rw [List.getElem?_map, hy] at hr1
      obtain rfl : r1 = qidC y := (Option.some.inj hr1).symm
      have htk : qids.take (j + 1) = qids.take j ++ [y] := by rw [List.take_add_one, hy]; rfl
      have HTK := Lib.hid htk
      have HMEM := Lib.hid (List.mem_of_getElem? hy)
      subst hA1'
      have d0 := hc1 0 _ rfl
      have d1 := hc1 1 _ rfl
      have d2 := hc1 2 _ rfl
      simp only [Nat.add_zero] at d0
      clear hc1 hr1 hy hb1 htk hT
      go_wp2_with fail
      refine (tQidOk_any y _).mono ?_
      rintro e w5 ⟨rfl, hb5⟩
      have HB5 := Lib.hid (Up.trans HBW.out hb5)
      clear hb5 d0 d1 d2 t10
      have hyo : qidOk y = true := (List.all_eq_true.1 HALL.out) y HMEM.out
      rw [hyo]
      have hnx : (qids.take (j + 1)).all qidOk = true := by rw [HTK.out]; simp [hok.out, hyo]
      have HNX := Lib.hid hnx
      clear hyo hnx
      go_wp2
      go_roundw
      case rel => exact ⟨j + 1, by omega, by go_num, HNX.out, HB5.out⟩
      case measure => simp [intOf]; omega
    · obtain rfl : j = nq := by omega
      have j1 : ¬ (j : Int) < j := by omega
      have HTr := Lib.hid hT
      have HBr := Lib.hid (HB4.out.trans (HBW.out.mono HB4.out.size))
      have t7 := hT.cell 7 _ rfl
      have t8 := hT.cell 8 _ rfl
      have t9 := hT.cell 9 _ rfl
      clear hT
      go_wp2_with fail
      refine (tQidOk_any ⟨qdir, qver, qpath⟩ _).mono ?_
      rintro e w5 ⟨rfl, hb5⟩
      rw [hfq]
      have HT5 := Lib.hid (HTr.out.up hb5)
      have HB5 := Lib.hid (HBr.out.trans (hb5.mono HBr.out.size))
      clear hb5 t7 t8 t9 t10
      have t12 := HT5.out.cell 12 _ rfl
      have t13 := HT5.out.cell 13 _ rfl
      have t14 := HT5.out.cell 14 _ rfl
      go_wp2_with fail
      refine (tQidOk_any ⟨sdir, sver, spath⟩ _).mono ?_
      rintro e w6 ⟨rfl, hb6⟩
      rw [hfs]
      have HT6 := Lib.hid (HT5.out.up hb6)
      have HB6 := Lib.hid (HB5.out.trans (hb6.mono HB5.out.size))
      clear hb6 t12 t13 t14
      have t3 := HT6.out.cell 3 _ rfl
      have t4 := HT6.out.cell 4 _ rfl
      have t5 := HT6.out.cell 5 _ rfl
      have t15 := HT6.out.cell 15 _ rfl
      have t16 := HT6.out.cell 16 _ rfl
      go_wp2_with fail
      refine (tWord_any msize _).mono ?_
      rintro e w7 ⟨rfl, rfl⟩
      rw [hf3]
      go_wp2_with fail
      refine (tWord_any iounit _).mono ?_
      rintro e w7 ⟨rfl, rfl⟩
      rw [hf4]
      go_wp2_with fail
      refine (tWord_any count _).mono ?_
      rintro e w7 ⟨rfl, rfl⟩
      rw [hf5]
      go_wp2_with fail
      refine (tWord_any smode _).mono ?_
      rintro e w7 ⟨rfl, rfl⟩
      rw [hf6]
      go_wp2_with fail
      refine (tLong_any ssize _).mono ?_
      rintro e w7 ⟨rfl, rfl⟩
      rw [hf7]
      go_wp2
      go_ret
      exact ⟨rfl, HB6.out⟩
end Go.Proofs.Ytoplkglnjgllnaa
