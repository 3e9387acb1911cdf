/-
  Layer 18's helper Own, of some kinds.
-/
import Derived.Test.YtoplkglnjgllnaaTrB
namespace Go.Proofs.Ytoplkglnjgllnaa
open Go.RowKit
set_option linter.unusedVariables false
set_option linter.unusedSimpArgs false

set_option maxRecDepth 100000 in
set_option maxHeartbeats 8000000 in
theorem own18_101 (tag code msize iounit count : Int) (name : List UInt8) (qdir : Bool) (qver qpath : Int) (qids : List QidV) (data : List UInt8) (sdir : Bool) (sver spath smode ssize : Int) (sname : List UInt8) (Aq : Option Addr) (nq cq : Nat) (Ad : Option Addr) (nd cd : Nat) (w : World) :
    Calls Try.prog 31 #[.agg #[.int .i64 101, .int .i64 tag, .int .i64 code, .int .i64 msize, .int .i64 iounit, .int .i64 count, .string (st name), .bool qdir, .int .i64 qver, .int .i64 qpath, .slice Aq nq cq, .slice Ad nd cd, .bool sdir, .int .i64 sver, .int .i64 spath, .int .i64 smode, .int .i64 ssize, .string (st sname)]] w (OwnTPost ⟨101, tag, code, msize, iounit, count, name, ⟨qdir, qver, qpath⟩, qids, data, ⟨sdir, sver, spath⟩, smode, ssize, sname⟩ Aq nq cq Ad nd cd w) := by
  have hA0 := Blk.new w 29 [.int .i64 101, .int .i64 tag, .int .i64 code, .int .i64 msize, .int .i64 iounit, .int .i64 count, .string (st name), .bool qdir, .int .i64 qver, .int .i64 qpath, .slice Aq nq cq, .slice Ad nd cd, .bool sdir, .int .i64 sver, .int .i64 spath, .int .i64 smode, .int .i64 ssize, .string (st sname)]
  have hZ0 := Blk.new (w.alloc (.cells #[.int .i64 101, .int .i64 tag, .int .i64 code, .int .i64 msize, .int .i64 iounit, .int .i64 count, .string (st name), .bool qdir, .int .i64 qver, .int .i64 qpath, .slice Aq nq cq, .slice Ad nd cd, .bool sdir, .int .i64 sver, .int .i64 spath, .int .i64 smode, .int .i64 ssize, .string (st sname)] 29)) 29 [.int .i64 0, .int .i64 0, .int .i64 0, .int .i64 0, .int .i64 0, .int .i64 0, .string ByteArray.empty, .bool false, .int .i64 0, .int .i64 0, .slice none 0 0, .slice none 0 0, .bool false, .int .i64 0, .int .i64 0, .int .i64 0, .int .i64 0, .string ByteArray.empty]
  have hX0 := Blk.new ((w.alloc (.cells #[.int .i64 101, .int .i64 tag, .int .i64 code, .int .i64 msize, .int .i64 iounit, .int .i64 count, .string (st name), .bool qdir, .int .i64 qver, .int .i64 qpath, .slice Aq nq cq, .slice Ad nd cd, .bool sdir, .int .i64 sver, .int .i64 spath, .int .i64 smode, .int .i64 ssize, .string (st sname)] 29)).alloc (.cells #[.int .i64 0, .int .i64 0, .int .i64 0, .int .i64 0, .int .i64 0, .int .i64 0, .string ByteArray.empty, .bool false, .int .i64 0, .int .i64 0, .slice none 0 0, .slice none 0 0, .bool false, .int .i64 0, .int .i64 0, .int .i64 0, .int .i64 0, .string ByteArray.empty] 29)) 29 [.int .i64 0, .int .i64 0, .int .i64 0, .int .i64 0, .int .i64 0, .int .i64 0, .string ByteArray.empty, .bool false, .int .i64 0, .int .i64 0, .slice none 0 0, .slice none 0 0, .bool false, .int .i64 0, .int .i64 0, .int .i64 0, .int .i64 0, .string ByteArray.empty]
  obtain ⟨W2, hW2⟩ : ∃ x, x = ((w.alloc (.cells #[.int .i64 101, .int .i64 tag, .int .i64 code, .int .i64 msize, .int .i64 iounit, .int .i64 count, .string (st name), .bool qdir, .int .i64 qver, .int .i64 qpath, .slice Aq nq cq, .slice Ad nd cd, .bool sdir, .int .i64 sver, .int .i64 spath, .int .i64 smode, .int .i64 ssize, .string (st sname)] 29)).alloc (.cells #[.int .i64 0, .int .i64 0, .int .i64 0, .int .i64 0, .int .i64 0, .int .i64 0, .string ByteArray.empty, .bool false, .int .i64 0, .int .i64 0, .slice none 0 0, .slice none 0 0, .bool false, .int .i64 0, .int .i64 0, .int .i64 0, .int .i64 0, .string ByteArray.empty] 29)).alloc (.cells #[.int .i64 0, .int .i64 0, .int .i64 0, .int .i64 0, .int .i64 0, .int .i64 0, .string ByteArray.empty, .bool false, .int .i64 0, .int .i64 0, .slice none 0 0, .slice none 0 0, .bool false, .int .i64 0, .int .i64 0, .int .i64 0, .int .i64 0, .string ByteArray.empty] 29) := ⟨_, rfl⟩
  have hs : W2.heap.size = w.heap.size + 3 := by rw [hW2]; simp
  have hA2 : Blk W2 w.heap.size 29 [.int .i64 101, .int .i64 tag, .int .i64 code, .int .i64 msize, .int .i64 iounit, .int .i64 count, .string (st name), .bool qdir, .int .i64 qver, .int .i64 qpath, .slice Aq nq cq, .slice Ad nd cd, .bool sdir, .int .i64 sver, .int .i64 spath, .int .i64 smode, .int .i64 ssize, .string (st sname)] := by rw [hW2]; exact (hA0.alloc _).alloc _
  have hZ2 : Blk W2 (w.heap.size + 1) 29 [.int .i64 0, .int .i64 0, .int .i64 0, .int .i64 0, .int .i64 0, .int .i64 0, .string ByteArray.empty, .bool false, .int .i64 0, .int .i64 0, .slice none 0 0, .slice none 0 0, .bool false, .int .i64 0, .int .i64 0, .int .i64 0, .int .i64 0, .string ByteArray.empty] := by rw [hW2]; have := hZ0.alloc (.cells #[.int .i64 0, .int .i64 0, .int .i64 0, .int .i64 0, .int .i64 0, .int .i64 0, .string ByteArray.empty, .bool false, .int .i64 0, .int .i64 0, .slice none 0 0, .slice none 0 0, .bool false, .int .i64 0, .int .i64 0, .int .i64 0, .int .i64 0, .string ByteArray.empty] 29); simpa using this
  have hX2 : Blk W2 (w.heap.size + 1 + 1) 29 [.int .i64 0, .int .i64 0, .int .i64 0, .int .i64 0, .int .i64 0, .int .i64 0, .string ByteArray.empty, .bool false, .int .i64 0, .int .i64 0, .slice none 0 0, .slice none 0 0, .bool false, .int .i64 0, .int .i64 0, .int .i64 0, .int .i64 0, .string ByteArray.empty] := by rw [hW2]; have := hX0; simpa using this
  obtain ⟨gX, hgX⟩ : ∃ x, x = w.heap.size + 1 + 1 := ⟨_, rfl⟩
  obtain ⟨gZ, hgZ⟩ : ∃ x, x = w.heap.size + 1 := ⟨_, rfl⟩
  have hX2' := hX2
  rw [← hgX] at hX2
  rw [← hgZ] at hZ2
  have gA_ne : w.heap.size ≠ gX := by omega
  have gZ_ne : gZ ≠ gX := by omega
  have gZ_le : w.heap.size ≤ gZ := by omega
  have gX_le : w.heap.size ≤ gX := by omega
  have hk2 : Keeps (Is gX) w W2 := by rw [hW2]; exact ((((Keeps.refl _ _).alloc _).alloc _).alloc _)
  have hA3 := hA2.keeps (keeps_setRow W2 (g := gX) #[.int .i64 101, .int .i64 tag, .int .i64 0, .int .i64 0, .int .i64 0, .int .i64 0, .string ByteArray.empty, .bool false, .int .i64 0, .int .i64 0, .slice none 0 0, .slice none 0 0, .bool false, .int .i64 0, .int .i64 0, .int .i64 0, .int .i64 0, .string ByteArray.empty]) gA_ne
  have hZ3 := hZ2.keeps (keeps_setRow W2 (g := gX) #[.int .i64 101, .int .i64 tag, .int .i64 0, .int .i64 0, .int .i64 0, .int .i64 0, .string ByteArray.empty, .bool false, .int .i64 0, .int .i64 0, .slice none 0 0, .slice none 0 0, .bool false, .int .i64 0, .int .i64 0, .int .i64 0, .int .i64 0, .string ByteArray.empty]) gZ_ne
  have hX3 := hX2.setRow [.int .i64 101, .int .i64 tag, .int .i64 0, .int .i64 0, .int .i64 0, .int .i64 0, .string ByteArray.empty, .bool false, .int .i64 0, .int .i64 0, .slice none 0 0, .slice none 0 0, .bool false, .int .i64 0, .int .i64 0, .int .i64 0, .int .i64 0, .string ByteArray.empty]
  have hk3 := hk2.trans (keeps_setRow W2 (g := gX) #[.int .i64 101, .int .i64 tag, .int .i64 0, .int .i64 0, .int .i64 0, .int .i64 0, .string ByteArray.empty, .bool false, .int .i64 0, .int .i64 0, .slice none 0 0, .slice none 0 0, .bool false, .int .i64 0, .int .i64 0, .int .i64 0, .int .i64 0, .string ByteArray.empty])
  have hW3 : W2 = ((w.alloc (.cells #[.int .i64 101, .int .i64 tag, .int .i64 code, .int .i64 msize, .int .i64 iounit, .int .i64 count, .string (st name), .bool qdir, .int .i64 qver, .int .i64 qpath, .slice Aq nq cq, .slice Ad nd cd, .bool sdir, .int .i64 sver, .int .i64 spath, .int .i64 smode, .int .i64 ssize, .string (st sname)] 29)).alloc (.cells #[.int .i64 0, .int .i64 0, .int .i64 0, .int .i64 0, .int .i64 0, .int .i64 0, .string ⟨#[]⟩, .bool false, .int .i64 0, .int .i64 0, .slice none 0 0, .slice none 0 0, .bool false, .int .i64 0, .int .i64 0, .int .i64 0, .int .i64 0, .string ⟨#[]⟩] 29)).alloc (.cells #[.int .i64 0, .int .i64 0, .int .i64 0, .int .i64 0, .int .i64 0, .int .i64 0, .string ⟨#[]⟩, .bool false, .int .i64 0, .int .i64 0, .slice none 0 0, .slice none 0 0, .bool false, .int .i64 0, .int .i64 0, .int .i64 0, .int .i64 0, .string ⟨#[]⟩] 29) := hW2
  have HA := Lib.hid hA3
  have HZ := Lib.hid hZ3
  have HX := Lib.hid hX3
  have HY := Lib.hid hX2'
  have HK0 := Lib.hid hk3
  have GX := Lib.hid hgX
  have GZ := Lib.hid hgZ
  have HW := Lib.hid hW3
  clear hA0 hZ0 hX0 hA2 hZ2 hX2 hk2 hW2 hgX hgZ hs hA3 hZ3 hX3 hX2' hk3 hW3
  go_enter Try.func31, Try.ntmps31
  go_upto_region 3 with (rw [← HW.out]; refine wpList_storeBlk rfl (.tmp 4) (.tmp 10) rfl rfl [.int .i64 101, .int .i64 tag, .int .i64 0, .int .i64 0, .int .i64 0, .int .i64 0, .string ⟨#[]⟩, .bool false, .int .i64 0, .int .i64 0, .slice none 0 0, .slice none 0 0, .bool false, .int .i64 0, .int .i64 0, .int .i64 0, .int .i64 0, .string ⟨#[]⟩] rfl rfl (by kernel_rfl) HY.out rfl (by simp [Value.oneCell']) ?_)
  rw [← GX.out, ← GZ.out]
  clear HW HY
  generalize hW4 : W2.setRow gX #[.int .i64 101, .int .i64 tag, .int .i64 0, .int .i64 0, .int .i64 0, .int .i64 0, .string ByteArray.empty, .bool false, .int .i64 0, .int .i64 0, .slice none 0 0, .slice none 0 0, .bool false, .int .i64 0, .int .i64 0, .int .i64 0, .int .i64 0, .string ByteArray.empty] = W4 at HA HZ HX HK0
  have hW5 : W2.setRow gX #[.int .i64 101, .int .i64 tag, .int .i64 0, .int .i64 0, .int .i64 0, .int .i64 0, .string ⟨#[]⟩, .bool false, .int .i64 0, .int .i64 0, .slice none 0 0, .slice none 0 0, .bool false, .int .i64 0, .int .i64 0, .int .i64 0, .int .i64 0, .string ⟨#[]⟩] = W4 := hW4
  rw [hW5]
  clear hW4 hW5
  have HK := Lib.hid (Keeps.refl (Is gX) W4)
  go_wp2_with fail
  refine (tHas_any 101 122 _).mono ?_
  rintro e wh ⟨rfl, hb⟩
  rw [show hasM 101 122 = true by decide]
  have hX := HX.out.up hb
  have hK := HK.out.trans (Keeps.of_below hb)
  clear HX HK hb
  have ka0 := (HA.out.keeps hK gA_ne).cell 3 _ rfl
  have ku := hX.cell 3 _ rfl
  have kf := hX.free 3
  have hX' := hX.set 3 (.int .i64 msize)
  have hK' := hK.setCell (p := ⟨gX, 3, none⟩) (.inl rfl) (.int .i64 msize)
  clear hX hK
  go_upto_region 5 with fail
  generalize wh.setCell ⟨gX, 3, none⟩ (.int .i64 msize) = wh4 at hX' hK'
  have hX := hX'
  have hK := hK'
  clear hX' hK' ku kf ka0
  have ka0 := (HA.out.keeps hK gA_ne).cell 6 _ rfl
  have ku := hX.cell 6 _ rfl
  have kf := hX.free 6
  have hX' := hX.set 6 (.string (st name))
  have hK' := hK.setCell (p := ⟨gX, 6, none⟩) (.inl rfl) (.string (st name))
  clear hX hK
  go_upto_region 6 with fail
  generalize wh4.setCell ⟨gX, 6, none⟩ (.string (st name)) = wh5 at hX' hK'
  have hX := hX'
  have hK := hK'
  clear hX' hK' ku kf ka0
  have HX := Lib.hid hX
  have HK := Lib.hid hK
  clear hX hK
  go_wp2_with fail
  refine (tHas_any 101 113 _).mono ?_
  rintro e wh ⟨rfl, hb⟩
  rw [show hasM 101 113 = false by decide]
  have hX := HX.out.up hb
  have hK := HK.out.trans (Keeps.of_below hb)
  clear HX HK hb
  have HX := Lib.hid hX
  have HK := Lib.hid hK
  clear hX hK
  go_wp2_with fail
  refine (tHas_any 101 101 _).mono ?_
  rintro e wh ⟨rfl, hb⟩
  rw [show hasM 101 101 = false by decide]
  have hX := HX.out.up hb
  have hK := HK.out.trans (Keeps.of_below hb)
  clear HX HK hb
  have HX := Lib.hid hX
  have HK := Lib.hid hK
  clear hX hK
  go_wp2_with fail
  refine (tHas_any 101 108 _).mono ?_
  rintro e wh ⟨rfl, hb⟩
  rw [show hasM 101 108 = false by decide]
  have hX := HX.out.up hb
  have hK := HK.out.trans (Keeps.of_below hb)
  clear HX HK hb
  have HX := Lib.hid hX
  have HK := Lib.hid hK
  clear hX hK
  go_wp2_with fail
  refine (tHas_any 101 105 _).mono ?_
  rintro e wh ⟨rfl, hb⟩
  rw [show hasM 101 105 = false by decide]
  have hX := HX.out.up hb
  have hK := HK.out.trans (Keeps.of_below hb)
  clear HX HK hb
  have HX := Lib.hid hX
  have HK := Lib.hid hK
  clear hX hK
  go_wp2_with fail
  refine (tHas_any 101 100 _).mono ?_
  rintro e wh ⟨rfl, hb⟩
  rw [show hasM 101 100 = false by decide]
  have hX := HX.out.up hb
  have hK := HK.out.trans (Keeps.of_below hb)
  clear HX HK hb
  have HX := Lib.hid hX
  have HK := Lib.hid hK
  clear hX hK
  go_wp2_with fail
  refine (tHas_any 101 99 _).mono ?_
  rintro e wh ⟨rfl, hb⟩
  rw [show hasM 101 99 = false by decide]
  have hX := HX.out.up hb
  have hK := HK.out.trans (Keeps.of_below hb)
  clear HX HK hb
  have HX := Lib.hid hX
  have HK := Lib.hid hK
  clear hX hK
  go_wp2_with fail
  refine (tHas_any 101 115 _).mono ?_
  rintro e wh ⟨rfl, hb⟩
  rw [show hasM 101 115 = false by decide]
  have hX := HX.out.up hb
  have hK := HK.out.trans (Keeps.of_below hb)
  clear HX HK hb
  have HX := Lib.hid hX
  have HK := Lib.hid hK
  clear hX hK
  have hZf := HZ.out.keeps HK.out gZ_ne
  go_wp2_with (first | refine wpList_loadBlk rfl (.tmp 4) rfl rfl (by kernel_rfl) tellT_agg HX.out ?_ | refine wpList_storeBlk rfl (.tmp 2) (.tmp 54) rfl rfl [.int .i64 101, .int .i64 tag, .int .i64 0, .int .i64 msize, .int .i64 0, .int .i64 0, .string (st name), .bool false, .int .i64 0, .int .i64 0, .slice none 0 0, .slice none 0 0, .bool false, .int .i64 0, .int .i64 0, .int .i64 0, .int .i64 0, .string ByteArray.empty] rfl rfl (by kernel_rfl) hZf rfl (by simp [Value.oneCell']) ?_)
  have hF := hZf.setRow [.int .i64 101, .int .i64 tag, .int .i64 0, .int .i64 msize, .int .i64 0, .int .i64 0, .string (st name), .bool false, .int .i64 0, .int .i64 0, .slice none 0 0, .slice none 0 0, .bool false, .int .i64 0, .int .i64 0, .int .i64 0, .int .i64 0, .string ByteArray.empty]
  have hkF := ((HK0.out.trans HK.out).mono (G' := fun k => k = gZ ∨ k = gX) (fun k _ e => .inr e)).trans ((keeps_setRow (g := gZ) _ #[.int .i64 101, .int .i64 tag, .int .i64 0, .int .i64 msize, .int .i64 0, .int .i64 0, .string (st name), .bool false, .int .i64 0, .int .i64 0, .slice none 0 0, .slice none 0 0, .bool false, .int .i64 0, .int .i64 0, .int .i64 0, .int .i64 0, .string ByteArray.empty]).mono fun k _ e => .inl e)
  exact bodyPost_ret (v := .agg #[.int .i64 101, .int .i64 tag, .int .i64 0, .int .i64 msize, .int .i64 0, .int .i64 0, .string (st name), .bool false, .int .i64 0, .int .i64 0, .slice none 0 0, .slice none 0 0, .bool false, .int .i64 0, .int .i64 0, .int .i64 0, .int .i64 0, .string ByteArray.empty]) (results_cellBlk rfl rfl hF (by kernel_rfl) tellT_agg) rfl ⟨⟨101, tag, 0, msize, 0, 0, name, ⟨false, 0, 0⟩, [], [], ⟨false, 0, 0⟩, 0, 0, []⟩, none, 0, 0, none, 0, 0, Lib.hid (by rfl), rfl, Lib.hid (.inr ⟨by rfl, rfl, rfl, rfl⟩), Lib.hid (.inr ⟨by rfl, rfl, rfl, rfl⟩), hkF.under (Nat.le_refl _) (fun k hk e => by rcases e with rfl | rfl <;> omega)⟩
set_option maxRecDepth 100000 in
set_option maxHeartbeats 8000000 in
theorem own18_105 (tag code msize iounit count : Int) (name : List UInt8) (qdir : Bool) (qver qpath : Int) (qids : List QidV) (data : List UInt8) (sdir : Bool) (sver spath smode ssize : Int) (sname : List UInt8) (Aq : Option Addr) (nq cq : Nat) (Ad : Option Addr) (nd cd : Nat) (w : World) :
    Calls Try.prog 31 #[.agg #[.int .i64 105, .int .i64 tag, .int .i64 code, .int .i64 msize, .int .i64 iounit, .int .i64 count, .string (st name), .bool qdir, .int .i64 qver, .int .i64 qpath, .slice Aq nq cq, .slice Ad nd cd, .bool sdir, .int .i64 sver, .int .i64 spath, .int .i64 smode, .int .i64 ssize, .string (st sname)]] w (OwnTPost ⟨105, tag, code, msize, iounit, count, name, ⟨qdir, qver, qpath⟩, qids, data, ⟨sdir, sver, spath⟩, smode, ssize, sname⟩ Aq nq cq Ad nd cd w) := by
  have hA0 := Blk.new w 29 [.int .i64 105, .int .i64 tag, .int .i64 code, .int .i64 msize, .int .i64 iounit, .int .i64 count, .string (st name), .bool qdir, .int .i64 qver, .int .i64 qpath, .slice Aq nq cq, .slice Ad nd cd, .bool sdir, .int .i64 sver, .int .i64 spath, .int .i64 smode, .int .i64 ssize, .string (st sname)]
  have hZ0 := Blk.new (w.alloc (.cells #[.int .i64 105, .int .i64 tag, .int .i64 code, .int .i64 msize, .int .i64 iounit, .int .i64 count, .string (st name), .bool qdir, .int .i64 qver, .int .i64 qpath, .slice Aq nq cq, .slice Ad nd cd, .bool sdir, .int .i64 sver, .int .i64 spath, .int .i64 smode, .int .i64 ssize, .string (st sname)] 29)) 29 [.int .i64 0, .int .i64 0, .int .i64 0, .int .i64 0, .int .i64 0, .int .i64 0, .string ByteArray.empty, .bool false, .int .i64 0, .int .i64 0, .slice none 0 0, .slice none 0 0, .bool false, .int .i64 0, .int .i64 0, .int .i64 0, .int .i64 0, .string ByteArray.empty]
  have hX0 := Blk.new ((w.alloc (.cells #[.int .i64 105, .int .i64 tag, .int .i64 code, .int .i64 msize, .int .i64 iounit, .int .i64 count, .string (st name), .bool qdir, .int .i64 qver, .int .i64 qpath, .slice Aq nq cq, .slice Ad nd cd, .bool sdir, .int .i64 sver, .int .i64 spath, .int .i64 smode, .int .i64 ssize, .string (st sname)] 29)).alloc (.cells #[.int .i64 0, .int .i64 0, .int .i64 0, .int .i64 0, .int .i64 0, .int .i64 0, .string ByteArray.empty, .bool false, .int .i64 0, .int .i64 0, .slice none 0 0, .slice none 0 0, .bool false, .int .i64 0, .int .i64 0, .int .i64 0, .int .i64 0, .string ByteArray.empty] 29)) 29 [.int .i64 0, .int .i64 0, .int .i64 0, .int .i64 0, .int .i64 0, .int .i64 0, .string ByteArray.empty, .bool false, .int .i64 0, .int .i64 0, .slice none 0 0, .slice none 0 0, .bool false, .int .i64 0, .int .i64 0, .int .i64 0, .int .i64 0, .string ByteArray.empty]
  obtain ⟨W2, hW2⟩ : ∃ x, x = ((w.alloc (.cells #[.int .i64 105, .int .i64 tag, .int .i64 code, .int .i64 msize, .int .i64 iounit, .int .i64 count, .string (st name), .bool qdir, .int .i64 qver, .int .i64 qpath, .slice Aq nq cq, .slice Ad nd cd, .bool sdir, .int .i64 sver, .int .i64 spath, .int .i64 smode, .int .i64 ssize, .string (st sname)] 29)).alloc (.cells #[.int .i64 0, .int .i64 0, .int .i64 0, .int .i64 0, .int .i64 0, .int .i64 0, .string ByteArray.empty, .bool false, .int .i64 0, .int .i64 0, .slice none 0 0, .slice none 0 0, .bool false, .int .i64 0, .int .i64 0, .int .i64 0, .int .i64 0, .string ByteArray.empty] 29)).alloc (.cells #[.int .i64 0, .int .i64 0, .int .i64 0, .int .i64 0, .int .i64 0, .int .i64 0, .string ByteArray.empty, .bool false, .int .i64 0, .int .i64 0, .slice none 0 0, .slice none 0 0, .bool false, .int .i64 0, .int .i64 0, .int .i64 0, .int .i64 0, .string ByteArray.empty] 29) := ⟨_, rfl⟩
  have hs : W2.heap.size = w.heap.size + 3 := by rw [hW2]; simp
  have hA2 : Blk W2 w.heap.size 29 [.int .i64 105, .int .i64 tag, .int .i64 code, .int .i64 msize, .int .i64 iounit, .int .i64 count, .string (st name), .bool qdir, .int .i64 qver, .int .i64 qpath, .slice Aq nq cq, .slice Ad nd cd, .bool sdir, .int .i64 sver, .int .i64 spath, .int .i64 smode, .int .i64 ssize, .string (st sname)] := by rw [hW2]; exact (hA0.alloc _).alloc _
  have hZ2 : Blk W2 (w.heap.size + 1) 29 [.int .i64 0, .int .i64 0, .int .i64 0, .int .i64 0, .int .i64 0, .int .i64 0, .string ByteArray.empty, .bool false, .int .i64 0, .int .i64 0, .slice none 0 0, .slice none 0 0, .bool false, .int .i64 0, .int .i64 0, .int .i64 0, .int .i64 0, .string ByteArray.empty] := by rw [hW2]; have := hZ0.alloc (.cells #[.int .i64 0, .int .i64 0, .int .i64 0, .int .i64 0, .int .i64 0, .int .i64 0, .string ByteArray.empty, .bool false, .int .i64 0, .int .i64 0, .slice none 0 0, .slice none 0 0, .bool false, .int .i64 0, .int .i64 0, .int .i64 0, .int .i64 0, .string ByteArray.empty] 29); simpa using this
  have hX2 : Blk W2 (w.heap.size + 1 + 1) 29 [.int .i64 0, .int .i64 0, .int .i64 0, .int .i64 0, .int .i64 0, .int .i64 0, .string ByteArray.empty, .bool false, .int .i64 0, .int .i64 0, .slice none 0 0, .slice none 0 0, .bool false, .int .i64 0, .int .i64 0, .int .i64 0, .int .i64 0, .string ByteArray.empty] := by rw [hW2]; have := hX0; simpa using this
  obtain ⟨gX, hgX⟩ : ∃ x, x = w.heap.size + 1 + 1 := ⟨_, rfl⟩
  obtain ⟨gZ, hgZ⟩ : ∃ x, x = w.heap.size + 1 := ⟨_, rfl⟩
  have hX2' := hX2
  rw [← hgX] at hX2
  rw [← hgZ] at hZ2
  have gA_ne : w.heap.size ≠ gX := by omega
  have gZ_ne : gZ ≠ gX := by omega
  have gZ_le : w.heap.size ≤ gZ := by omega
  have gX_le : w.heap.size ≤ gX := by omega
  have hk2 : Keeps (Is gX) w W2 := by rw [hW2]; exact ((((Keeps.refl _ _).alloc _).alloc _).alloc _)
  have hA3 := hA2.keeps (keeps_setRow W2 (g := gX) #[.int .i64 105, .int .i64 tag, .int .i64 0, .int .i64 0, .int .i64 0, .int .i64 0, .string ByteArray.empty, .bool false, .int .i64 0, .int .i64 0, .slice none 0 0, .slice none 0 0, .bool false, .int .i64 0, .int .i64 0, .int .i64 0, .int .i64 0, .string ByteArray.empty]) gA_ne
  have hZ3 := hZ2.keeps (keeps_setRow W2 (g := gX) #[.int .i64 105, .int .i64 tag, .int .i64 0, .int .i64 0, .int .i64 0, .int .i64 0, .string ByteArray.empty, .bool false, .int .i64 0, .int .i64 0, .slice none 0 0, .slice none 0 0, .bool false, .int .i64 0, .int .i64 0, .int .i64 0, .int .i64 0, .string ByteArray.empty]) gZ_ne
  have hX3 := hX2.setRow [.int .i64 105, .int .i64 tag, .int .i64 0, .int .i64 0, .int .i64 0, .int .i64 0, .string ByteArray.empty, .bool false, .int .i64 0, .int .i64 0, .slice none 0 0, .slice none 0 0, .bool false, .int .i64 0, .int .i64 0, .int .i64 0, .int .i64 0, .string ByteArray.empty]
  have hk3 := hk2.trans (keeps_setRow W2 (g := gX) #[.int .i64 105, .int .i64 tag, .int .i64 0, .int .i64 0, .int .i64 0, .int .i64 0, .string ByteArray.empty, .bool false, .int .i64 0, .int .i64 0, .slice none 0 0, .slice none 0 0, .bool false, .int .i64 0, .int .i64 0, .int .i64 0, .int .i64 0, .string ByteArray.empty])
  have hW3 : W2 = ((w.alloc (.cells #[.int .i64 105, .int .i64 tag, .int .i64 code, .int .i64 msize, .int .i64 iounit, .int .i64 count, .string (st name), .bool qdir, .int .i64 qver, .int .i64 qpath, .slice Aq nq cq, .slice Ad nd cd, .bool sdir, .int .i64 sver, .int .i64 spath, .int .i64 smode, .int .i64 ssize, .string (st sname)] 29)).alloc (.cells #[.int .i64 0, .int .i64 0, .int .i64 0, .int .i64 0, .int .i64 0, .int .i64 0, .string ⟨#[]⟩, .bool false, .int .i64 0, .int .i64 0, .slice none 0 0, .slice none 0 0, .bool false, .int .i64 0, .int .i64 0, .int .i64 0, .int .i64 0, .string ⟨#[]⟩] 29)).alloc (.cells #[.int .i64 0, .int .i64 0, .int .i64 0, .int .i64 0, .int .i64 0, .int .i64 0, .string ⟨#[]⟩, .bool false, .int .i64 0, .int .i64 0, .slice none 0 0, .slice none 0 0, .bool false, .int .i64 0, .int .i64 0, .int .i64 0, .int .i64 0, .string ⟨#[]⟩] 29) := hW2
  have HA := Lib.hid hA3
  have HZ := Lib.hid hZ3
  have HX := Lib.hid hX3
  have HY := Lib.hid hX2'
  have HK0 := Lib.hid hk3
  have GX := Lib.hid hgX
  have GZ := Lib.hid hgZ
  have HW := Lib.hid hW3
  clear hA0 hZ0 hX0 hA2 hZ2 hX2 hk2 hW2 hgX hgZ hs hA3 hZ3 hX3 hX2' hk3 hW3
  go_enter Try.func31, Try.ntmps31
  go_upto_region 3 with (rw [← HW.out]; refine wpList_storeBlk rfl (.tmp 4) (.tmp 10) rfl rfl [.int .i64 105, .int .i64 tag, .int .i64 0, .int .i64 0, .int .i64 0, .int .i64 0, .string ⟨#[]⟩, .bool false, .int .i64 0, .int .i64 0, .slice none 0 0, .slice none 0 0, .bool false, .int .i64 0, .int .i64 0, .int .i64 0, .int .i64 0, .string ⟨#[]⟩] rfl rfl (by kernel_rfl) HY.out rfl (by simp [Value.oneCell']) ?_)
  rw [← GX.out, ← GZ.out]
  clear HW HY
  generalize hW4 : W2.setRow gX #[.int .i64 105, .int .i64 tag, .int .i64 0, .int .i64 0, .int .i64 0, .int .i64 0, .string ByteArray.empty, .bool false, .int .i64 0, .int .i64 0, .slice none 0 0, .slice none 0 0, .bool false, .int .i64 0, .int .i64 0, .int .i64 0, .int .i64 0, .string ByteArray.empty] = W4 at HA HZ HX HK0
  have hW5 : W2.setRow gX #[.int .i64 105, .int .i64 tag, .int .i64 0, .int .i64 0, .int .i64 0, .int .i64 0, .string ⟨#[]⟩, .bool false, .int .i64 0, .int .i64 0, .slice none 0 0, .slice none 0 0, .bool false, .int .i64 0, .int .i64 0, .int .i64 0, .int .i64 0, .string ⟨#[]⟩] = W4 := hW4
  rw [hW5]
  clear hW4 hW5
  have HK := Lib.hid (Keeps.refl (Is gX) W4)
  go_wp2_with fail
  refine (tHas_any 105 122 _).mono ?_
  rintro e wh ⟨rfl, hb⟩
  rw [show hasM 105 122 = false by decide]
  have hX := HX.out.up hb
  have hK := HK.out.trans (Keeps.of_below hb)
  clear HX HK hb
  have HX := Lib.hid hX
  have HK := Lib.hid hK
  clear hX hK
  go_wp2_with fail
  refine (tHas_any 105 113 _).mono ?_
  rintro e wh ⟨rfl, hb⟩
  rw [show hasM 105 113 = true by decide]
  have hX := HX.out.up hb
  have hK := HK.out.trans (Keeps.of_below hb)
  clear HX HK hb
  have ka0 := (HA.out.keeps hK gA_ne).cell 7 _ rfl
  have ka1 := (HA.out.keeps hK gA_ne).cell 8 _ rfl
  have ka2 := (HA.out.keeps hK gA_ne).cell 9 _ rfl
  have hX' := hX.setRow [.int .i64 105, .int .i64 tag, .int .i64 0, .int .i64 0, .int .i64 0, .int .i64 0, .string ByteArray.empty, .bool qdir, .int .i64 qver, .int .i64 qpath, .slice none 0 0, .slice none 0 0, .bool false, .int .i64 0, .int .i64 0, .int .i64 0, .int .i64 0, .string ByteArray.empty]
  have hK' := hK.more8 (keeps_setRow (g := gX) wh #[.int .i64 105, .int .i64 tag, .int .i64 0, .int .i64 0, .int .i64 0, .int .i64 0, .string ByteArray.empty, .bool qdir, .int .i64 qver, .int .i64 qpath, .slice none 0 0, .slice none 0 0, .bool false, .int .i64 0, .int .i64 0, .int .i64 0, .int .i64 0, .string ByteArray.empty]) (fun _ _ h => h)
  go_upto_region 8 with (refine wpList_storeMid8 rfl (.tmp 23) (.tmp 22) rfl rfl [.bool qdir, .int .i64 qver, .int .i64 qpath] [.int .i64 105, .int .i64 tag, .int .i64 0, .int .i64 0, .int .i64 0, .int .i64 0, .string ByteArray.empty, .bool qdir, .int .i64 qver, .int .i64 qpath, .slice none 0 0, .slice none 0 0, .bool false, .int .i64 0, .int .i64 0, .int .i64 0, .int .i64 0, .string ByteArray.empty] rfl rfl (by kernel_rfl) hX (by simp) (by simp [Value.oneCell']) rfl ?_)
  generalize wh.setRow gX #[.int .i64 105, .int .i64 tag, .int .i64 0, .int .i64 0, .int .i64 0, .int .i64 0, .string ByteArray.empty, .bool qdir, .int .i64 qver, .int .i64 qpath, .slice none 0 0, .slice none 0 0, .bool false, .int .i64 0, .int .i64 0, .int .i64 0, .int .i64 0, .string ByteArray.empty] = wh7 at hX' hK'
  clear hX hK ka0 ka1 ka2
  have hX := hX'
  have hK := hK'
  clear hX' hK'
  have HX := Lib.hid hX
  have HK := Lib.hid hK
  clear hX hK
  go_wp2_with fail
  refine (tHas_any 105 101 _).mono ?_
  rintro e wh ⟨rfl, hb⟩
  rw [show hasM 105 101 = false by decide]
  have hX := HX.out.up hb
  have hK := HK.out.trans (Keeps.of_below hb)
  clear HX HK hb
  have HX := Lib.hid hX
  have HK := Lib.hid hK
  clear hX hK
  go_wp2_with fail
  refine (tHas_any 105 108 _).mono ?_
  rintro e wh ⟨rfl, hb⟩
  rw [show hasM 105 108 = false by decide]
  have hX := HX.out.up hb
  have hK := HK.out.trans (Keeps.of_below hb)
  clear HX HK hb
  have HX := Lib.hid hX
  have HK := Lib.hid hK
  clear hX hK
  go_wp2_with fail
  refine (tHas_any 105 105 _).mono ?_
  rintro e wh ⟨rfl, hb⟩
  rw [show hasM 105 105 = false by decide]
  have hX := HX.out.up hb
  have hK := HK.out.trans (Keeps.of_below hb)
  clear HX HK hb
  have HX := Lib.hid hX
  have HK := Lib.hid hK
  clear hX hK
  go_wp2_with fail
  refine (tHas_any 105 100 _).mono ?_
  rintro e wh ⟨rfl, hb⟩
  rw [show hasM 105 100 = false by decide]
  have hX := HX.out.up hb
  have hK := HK.out.trans (Keeps.of_below hb)
  clear HX HK hb
  have HX := Lib.hid hX
  have HK := Lib.hid hK
  clear hX hK
  go_wp2_with fail
  refine (tHas_any 105 99 _).mono ?_
  rintro e wh ⟨rfl, hb⟩
  rw [show hasM 105 99 = false by decide]
  have hX := HX.out.up hb
  have hK := HK.out.trans (Keeps.of_below hb)
  clear HX HK hb
  have HX := Lib.hid hX
  have HK := Lib.hid hK
  clear hX hK
  go_wp2_with fail
  refine (tHas_any 105 115 _).mono ?_
  rintro e wh ⟨rfl, hb⟩
  rw [show hasM 105 115 = false by decide]
  have hX := HX.out.up hb
  have hK := HK.out.trans (Keeps.of_below hb)
  clear HX HK hb
  have HX := Lib.hid hX
  have HK := Lib.hid hK
  clear hX hK
  have hZf := HZ.out.keeps HK.out gZ_ne
  go_wp2_with (first | refine wpList_loadBlk rfl (.tmp 4) rfl rfl (by kernel_rfl) tellT_agg HX.out ?_ | refine wpList_storeBlk rfl (.tmp 2) (.tmp 54) rfl rfl [.int .i64 105, .int .i64 tag, .int .i64 0, .int .i64 0, .int .i64 0, .int .i64 0, .string ByteArray.empty, .bool qdir, .int .i64 qver, .int .i64 qpath, .slice none 0 0, .slice none 0 0, .bool false, .int .i64 0, .int .i64 0, .int .i64 0, .int .i64 0, .string ByteArray.empty] rfl rfl (by kernel_rfl) hZf rfl (by simp [Value.oneCell']) ?_)
  have hF := hZf.setRow [.int .i64 105, .int .i64 tag, .int .i64 0, .int .i64 0, .int .i64 0, .int .i64 0, .string ByteArray.empty, .bool qdir, .int .i64 qver, .int .i64 qpath, .slice none 0 0, .slice none 0 0, .bool false, .int .i64 0, .int .i64 0, .int .i64 0, .int .i64 0, .string ByteArray.empty]
  have hkF := ((HK0.out.trans HK.out).mono (G' := fun k => k = gZ ∨ k = gX) (fun k _ e => .inr e)).trans ((keeps_setRow (g := gZ) _ #[.int .i64 105, .int .i64 tag, .int .i64 0, .int .i64 0, .int .i64 0, .int .i64 0, .string ByteArray.empty, .bool qdir, .int .i64 qver, .int .i64 qpath, .slice none 0 0, .slice none 0 0, .bool false, .int .i64 0, .int .i64 0, .int .i64 0, .int .i64 0, .string ByteArray.empty]).mono fun k _ e => .inl e)
  exact bodyPost_ret (v := .agg #[.int .i64 105, .int .i64 tag, .int .i64 0, .int .i64 0, .int .i64 0, .int .i64 0, .string ByteArray.empty, .bool qdir, .int .i64 qver, .int .i64 qpath, .slice none 0 0, .slice none 0 0, .bool false, .int .i64 0, .int .i64 0, .int .i64 0, .int .i64 0, .string ByteArray.empty]) (results_cellBlk rfl rfl hF (by kernel_rfl) tellT_agg) rfl ⟨⟨105, tag, 0, 0, 0, 0, [], ⟨qdir, qver, qpath⟩, [], [], ⟨false, 0, 0⟩, 0, 0, []⟩, none, 0, 0, none, 0, 0, Lib.hid (by rfl), rfl, Lib.hid (.inr ⟨by rfl, rfl, rfl, rfl⟩), Lib.hid (.inr ⟨by rfl, rfl, rfl, rfl⟩), hkF.under (Nat.le_refl _) (fun k hk e => by rcases e with rfl | rfl <;> omega)⟩
set_option maxRecDepth 100000 in
set_option maxHeartbeats 8000000 in
theorem own18_107 (tag code msize iounit count : Int) (name : List UInt8) (qdir : Bool) (qver qpath : Int) (qids : List QidV) (data : List UInt8) (sdir : Bool) (sver spath smode ssize : Int) (sname : List UInt8) (Aq : Option Addr) (nq cq : Nat) (Ad : Option Addr) (nd cd : Nat) (w : World) :
    Calls Try.prog 31 #[.agg #[.int .i64 107, .int .i64 tag, .int .i64 code, .int .i64 msize, .int .i64 iounit, .int .i64 count, .string (st name), .bool qdir, .int .i64 qver, .int .i64 qpath, .slice Aq nq cq, .slice Ad nd cd, .bool sdir, .int .i64 sver, .int .i64 spath, .int .i64 smode, .int .i64 ssize, .string (st sname)]] w (OwnTPost ⟨107, tag, code, msize, iounit, count, name, ⟨qdir, qver, qpath⟩, qids, data, ⟨sdir, sver, spath⟩, smode, ssize, sname⟩ Aq nq cq Ad nd cd w) := by
  have hA0 := Blk.new w 29 [.int .i64 107, .int .i64 tag, .int .i64 code, .int .i64 msize, .int .i64 iounit, .int .i64 count, .string (st name), .bool qdir, .int .i64 qver, .int .i64 qpath, .slice Aq nq cq, .slice Ad nd cd, .bool sdir, .int .i64 sver, .int .i64 spath, .int .i64 smode, .int .i64 ssize, .string (st sname)]
  have hZ0 := Blk.new (w.alloc (.cells #[.int .i64 107, .int .i64 tag, .int .i64 code, .int .i64 msize, .int .i64 iounit, .int .i64 count, .string (st name), .bool qdir, .int .i64 qver, .int .i64 qpath, .slice Aq nq cq, .slice Ad nd cd, .bool sdir, .int .i64 sver, .int .i64 spath, .int .i64 smode, .int .i64 ssize, .string (st sname)] 29)) 29 [.int .i64 0, .int .i64 0, .int .i64 0, .int .i64 0, .int .i64 0, .int .i64 0, .string ByteArray.empty, .bool false, .int .i64 0, .int .i64 0, .slice none 0 0, .slice none 0 0, .bool false, .int .i64 0, .int .i64 0, .int .i64 0, .int .i64 0, .string ByteArray.empty]
  have hX0 := Blk.new ((w.alloc (.cells #[.int .i64 107, .int .i64 tag, .int .i64 code, .int .i64 msize, .int .i64 iounit, .int .i64 count, .string (st name), .bool qdir, .int .i64 qver, .int .i64 qpath, .slice Aq nq cq, .slice Ad nd cd, .bool sdir, .int .i64 sver, .int .i64 spath, .int .i64 smode, .int .i64 ssize, .string (st sname)] 29)).alloc (.cells #[.int .i64 0, .int .i64 0, .int .i64 0, .int .i64 0, .int .i64 0, .int .i64 0, .string ByteArray.empty, .bool false, .int .i64 0, .int .i64 0, .slice none 0 0, .slice none 0 0, .bool false, .int .i64 0, .int .i64 0, .int .i64 0, .int .i64 0, .string ByteArray.empty] 29)) 29 [.int .i64 0, .int .i64 0, .int .i64 0, .int .i64 0, .int .i64 0, .int .i64 0, .string ByteArray.empty, .bool false, .int .i64 0, .int .i64 0, .slice none 0 0, .slice none 0 0, .bool false, .int .i64 0, .int .i64 0, .int .i64 0, .int .i64 0, .string ByteArray.empty]
  obtain ⟨W2, hW2⟩ : ∃ x, x = ((w.alloc (.cells #[.int .i64 107, .int .i64 tag, .int .i64 code, .int .i64 msize, .int .i64 iounit, .int .i64 count, .string (st name), .bool qdir, .int .i64 qver, .int .i64 qpath, .slice Aq nq cq, .slice Ad nd cd, .bool sdir, .int .i64 sver, .int .i64 spath, .int .i64 smode, .int .i64 ssize, .string (st sname)] 29)).alloc (.cells #[.int .i64 0, .int .i64 0, .int .i64 0, .int .i64 0, .int .i64 0, .int .i64 0, .string ByteArray.empty, .bool false, .int .i64 0, .int .i64 0, .slice none 0 0, .slice none 0 0, .bool false, .int .i64 0, .int .i64 0, .int .i64 0, .int .i64 0, .string ByteArray.empty] 29)).alloc (.cells #[.int .i64 0, .int .i64 0, .int .i64 0, .int .i64 0, .int .i64 0, .int .i64 0, .string ByteArray.empty, .bool false, .int .i64 0, .int .i64 0, .slice none 0 0, .slice none 0 0, .bool false, .int .i64 0, .int .i64 0, .int .i64 0, .int .i64 0, .string ByteArray.empty] 29) := ⟨_, rfl⟩
  have hs : W2.heap.size = w.heap.size + 3 := by rw [hW2]; simp
  have hA2 : Blk W2 w.heap.size 29 [.int .i64 107, .int .i64 tag, .int .i64 code, .int .i64 msize, .int .i64 iounit, .int .i64 count, .string (st name), .bool qdir, .int .i64 qver, .int .i64 qpath, .slice Aq nq cq, .slice Ad nd cd, .bool sdir, .int .i64 sver, .int .i64 spath, .int .i64 smode, .int .i64 ssize, .string (st sname)] := by rw [hW2]; exact (hA0.alloc _).alloc _
  have hZ2 : Blk W2 (w.heap.size + 1) 29 [.int .i64 0, .int .i64 0, .int .i64 0, .int .i64 0, .int .i64 0, .int .i64 0, .string ByteArray.empty, .bool false, .int .i64 0, .int .i64 0, .slice none 0 0, .slice none 0 0, .bool false, .int .i64 0, .int .i64 0, .int .i64 0, .int .i64 0, .string ByteArray.empty] := by rw [hW2]; have := hZ0.alloc (.cells #[.int .i64 0, .int .i64 0, .int .i64 0, .int .i64 0, .int .i64 0, .int .i64 0, .string ByteArray.empty, .bool false, .int .i64 0, .int .i64 0, .slice none 0 0, .slice none 0 0, .bool false, .int .i64 0, .int .i64 0, .int .i64 0, .int .i64 0, .string ByteArray.empty] 29); simpa using this
  have hX2 : Blk W2 (w.heap.size + 1 + 1) 29 [.int .i64 0, .int .i64 0, .int .i64 0, .int .i64 0, .int .i64 0, .int .i64 0, .string ByteArray.empty, .bool false, .int .i64 0, .int .i64 0, .slice none 0 0, .slice none 0 0, .bool false, .int .i64 0, .int .i64 0, .int .i64 0, .int .i64 0, .string ByteArray.empty] := by rw [hW2]; have := hX0; simpa using this
  obtain ⟨gX, hgX⟩ : ∃ x, x = w.heap.size + 1 + 1 := ⟨_, rfl⟩
  obtain ⟨gZ, hgZ⟩ : ∃ x, x = w.heap.size + 1 := ⟨_, rfl⟩
  have hX2' := hX2
  rw [← hgX] at hX2
  rw [← hgZ] at hZ2
  have gA_ne : w.heap.size ≠ gX := by omega
  have gZ_ne : gZ ≠ gX := by omega
  have gZ_le : w.heap.size ≤ gZ := by omega
  have gX_le : w.heap.size ≤ gX := by omega
  have hk2 : Keeps (Is gX) w W2 := by rw [hW2]; exact ((((Keeps.refl _ _).alloc _).alloc _).alloc _)
  have hA3 := hA2.keeps (keeps_setRow W2 (g := gX) #[.int .i64 107, .int .i64 tag, .int .i64 0, .int .i64 0, .int .i64 0, .int .i64 0, .string ByteArray.empty, .bool false, .int .i64 0, .int .i64 0, .slice none 0 0, .slice none 0 0, .bool false, .int .i64 0, .int .i64 0, .int .i64 0, .int .i64 0, .string ByteArray.empty]) gA_ne
  have hZ3 := hZ2.keeps (keeps_setRow W2 (g := gX) #[.int .i64 107, .int .i64 tag, .int .i64 0, .int .i64 0, .int .i64 0, .int .i64 0, .string ByteArray.empty, .bool false, .int .i64 0, .int .i64 0, .slice none 0 0, .slice none 0 0, .bool false, .int .i64 0, .int .i64 0, .int .i64 0, .int .i64 0, .string ByteArray.empty]) gZ_ne
  have hX3 := hX2.setRow [.int .i64 107, .int .i64 tag, .int .i64 0, .int .i64 0, .int .i64 0, .int .i64 0, .string ByteArray.empty, .bool false, .int .i64 0, .int .i64 0, .slice none 0 0, .slice none 0 0, .bool false, .int .i64 0, .int .i64 0, .int .i64 0, .int .i64 0, .string ByteArray.empty]
  have hk3 := hk2.trans (keeps_setRow W2 (g := gX) #[.int .i64 107, .int .i64 tag, .int .i64 0, .int .i64 0, .int .i64 0, .int .i64 0, .string ByteArray.empty, .bool false, .int .i64 0, .int .i64 0, .slice none 0 0, .slice none 0 0, .bool false, .int .i64 0, .int .i64 0, .int .i64 0, .int .i64 0, .string ByteArray.empty])
  have hW3 : W2 = ((w.alloc (.cells #[.int .i64 107, .int .i64 tag, .int .i64 code, .int .i64 msize, .int .i64 iounit, .int .i64 count, .string (st name), .bool qdir, .int .i64 qver, .int .i64 qpath, .slice Aq nq cq, .slice Ad nd cd, .bool sdir, .int .i64 sver, .int .i64 spath, .int .i64 smode, .int .i64 ssize, .string (st sname)] 29)).alloc (.cells #[.int .i64 0, .int .i64 0, .int .i64 0, .int .i64 0, .int .i64 0, .int .i64 0, .string ⟨#[]⟩, .bool false, .int .i64 0, .int .i64 0, .slice none 0 0, .slice none 0 0, .bool false, .int .i64 0, .int .i64 0, .int .i64 0, .int .i64 0, .string ⟨#[]⟩] 29)).alloc (.cells #[.int .i64 0, .int .i64 0, .int .i64 0, .int .i64 0, .int .i64 0, .int .i64 0, .string ⟨#[]⟩, .bool false, .int .i64 0, .int .i64 0, .slice none 0 0, .slice none 0 0, .bool false, .int .i64 0, .int .i64 0, .int .i64 0, .int .i64 0, .string ⟨#[]⟩] 29) := hW2
  have HA := Lib.hid hA3
  have HZ := Lib.hid hZ3
  have HX := Lib.hid hX3
  have HY := Lib.hid hX2'
  have HK0 := Lib.hid hk3
  have GX := Lib.hid hgX
  have GZ := Lib.hid hgZ
  have HW := Lib.hid hW3
  clear hA0 hZ0 hX0 hA2 hZ2 hX2 hk2 hW2 hgX hgZ hs hA3 hZ3 hX3 hX2' hk3 hW3
  go_enter Try.func31, Try.ntmps31
  go_upto_region 3 with (rw [← HW.out]; refine wpList_storeBlk rfl (.tmp 4) (.tmp 10) rfl rfl [.int .i64 107, .int .i64 tag, .int .i64 0, .int .i64 0, .int .i64 0, .int .i64 0, .string ⟨#[]⟩, .bool false, .int .i64 0, .int .i64 0, .slice none 0 0, .slice none 0 0, .bool false, .int .i64 0, .int .i64 0, .int .i64 0, .int .i64 0, .string ⟨#[]⟩] rfl rfl (by kernel_rfl) HY.out rfl (by simp [Value.oneCell']) ?_)
  rw [← GX.out, ← GZ.out]
  clear HW HY
  generalize hW4 : W2.setRow gX #[.int .i64 107, .int .i64 tag, .int .i64 0, .int .i64 0, .int .i64 0, .int .i64 0, .string ByteArray.empty, .bool false, .int .i64 0, .int .i64 0, .slice none 0 0, .slice none 0 0, .bool false, .int .i64 0, .int .i64 0, .int .i64 0, .int .i64 0, .string ByteArray.empty] = W4 at HA HZ HX HK0
  have hW5 : W2.setRow gX #[.int .i64 107, .int .i64 tag, .int .i64 0, .int .i64 0, .int .i64 0, .int .i64 0, .string ⟨#[]⟩, .bool false, .int .i64 0, .int .i64 0, .slice none 0 0, .slice none 0 0, .bool false, .int .i64 0, .int .i64 0, .int .i64 0, .int .i64 0, .string ⟨#[]⟩] = W4 := hW4
  rw [hW5]
  clear hW4 hW5
  have HK := Lib.hid (Keeps.refl (Is gX) W4)
  go_wp2_with fail
  refine (tHas_any 107 122 _).mono ?_
  rintro e wh ⟨rfl, hb⟩
  rw [show hasM 107 122 = false by decide]
  have hX := HX.out.up hb
  have hK := HK.out.trans (Keeps.of_below hb)
  clear HX HK hb
  have HX := Lib.hid hX
  have HK := Lib.hid hK
  clear hX hK
  go_wp2_with fail
  refine (tHas_any 107 113 _).mono ?_
  rintro e wh ⟨rfl, hb⟩
  rw [show hasM 107 113 = false by decide]
  have hX := HX.out.up hb
  have hK := HK.out.trans (Keeps.of_below hb)
  clear HX HK hb
  have HX := Lib.hid hX
  have HK := Lib.hid hK
  clear hX hK
  go_wp2_with fail
  refine (tHas_any 107 101 _).mono ?_
  rintro e wh ⟨rfl, hb⟩
  rw [show hasM 107 101 = true by decide]
  have hX := HX.out.up hb
  have hK := HK.out.trans (Keeps.of_below hb)
  clear HX HK hb
  have ka0 := (HA.out.keeps hK gA_ne).cell 2 _ rfl
  have ku := hX.cell 2 _ rfl
  have kf := hX.free 2
  have hX' := hX.set 2 (.int .i64 code)
  have hK' := hK.setCell (p := ⟨gX, 2, none⟩) (.inl rfl) (.int .i64 code)
  clear hX hK
  go_upto_region 10 with fail
  generalize wh.setCell ⟨gX, 2, none⟩ (.int .i64 code) = wh9 at hX' hK'
  have hX := hX'
  have hK := hK'
  clear hX' hK' ku kf ka0
  have HX := Lib.hid hX
  have HK := Lib.hid hK
  clear hX hK
  go_wp2_with fail
  refine (tHas_any 107 108 _).mono ?_
  rintro e wh ⟨rfl, hb⟩
  rw [show hasM 107 108 = false by decide]
  have hX := HX.out.up hb
  have hK := HK.out.trans (Keeps.of_below hb)
  clear HX HK hb
  have HX := Lib.hid hX
  have HK := Lib.hid hK
  clear hX hK
  go_wp2_with fail
  refine (tHas_any 107 105 _).mono ?_
  rintro e wh ⟨rfl, hb⟩
  rw [show hasM 107 105 = false by decide]
  have hX := HX.out.up hb
  have hK := HK.out.trans (Keeps.of_below hb)
  clear HX HK hb
  have HX := Lib.hid hX
  have HK := Lib.hid hK
  clear hX hK
  go_wp2_with fail
  refine (tHas_any 107 100 _).mono ?_
  rintro e wh ⟨rfl, hb⟩
  rw [show hasM 107 100 = false by decide]
  have hX := HX.out.up hb
  have hK := HK.out.trans (Keeps.of_below hb)
  clear HX HK hb
  have HX := Lib.hid hX
  have HK := Lib.hid hK
  clear hX hK
  go_wp2_with fail
  refine (tHas_any 107 99 _).mono ?_
  rintro e wh ⟨rfl, hb⟩
  rw [show hasM 107 99 = false by decide]
  have hX := HX.out.up hb
  have hK := HK.out.trans (Keeps.of_below hb)
  clear HX HK hb
  have HX := Lib.hid hX
  have HK := Lib.hid hK
  clear hX hK
  go_wp2_with fail
  refine (tHas_any 107 115 _).mono ?_
  rintro e wh ⟨rfl, hb⟩
  rw [show hasM 107 115 = false by decide]
  have hX := HX.out.up hb
  have hK := HK.out.trans (Keeps.of_below hb)
  clear HX HK hb
  have HX := Lib.hid hX
  have HK := Lib.hid hK
  clear hX hK
  have hZf := HZ.out.keeps HK.out gZ_ne
  go_wp2_with (first | refine wpList_loadBlk rfl (.tmp 4) rfl rfl (by kernel_rfl) tellT_agg HX.out ?_ | refine wpList_storeBlk rfl (.tmp 2) (.tmp 54) rfl rfl [.int .i64 107, .int .i64 tag, .int .i64 code, .int .i64 0, .int .i64 0, .int .i64 0, .string ByteArray.empty, .bool false, .int .i64 0, .int .i64 0, .slice none 0 0, .slice none 0 0, .bool false, .int .i64 0, .int .i64 0, .int .i64 0, .int .i64 0, .string ByteArray.empty] rfl rfl (by kernel_rfl) hZf rfl (by simp [Value.oneCell']) ?_)
  have hF := hZf.setRow [.int .i64 107, .int .i64 tag, .int .i64 code, .int .i64 0, .int .i64 0, .int .i64 0, .string ByteArray.empty, .bool false, .int .i64 0, .int .i64 0, .slice none 0 0, .slice none 0 0, .bool false, .int .i64 0, .int .i64 0, .int .i64 0, .int .i64 0, .string ByteArray.empty]
  have hkF := ((HK0.out.trans HK.out).mono (G' := fun k => k = gZ ∨ k = gX) (fun k _ e => .inr e)).trans ((keeps_setRow (g := gZ) _ #[.int .i64 107, .int .i64 tag, .int .i64 code, .int .i64 0, .int .i64 0, .int .i64 0, .string ByteArray.empty, .bool false, .int .i64 0, .int .i64 0, .slice none 0 0, .slice none 0 0, .bool false, .int .i64 0, .int .i64 0, .int .i64 0, .int .i64 0, .string ByteArray.empty]).mono fun k _ e => .inl e)
  exact bodyPost_ret (v := .agg #[.int .i64 107, .int .i64 tag, .int .i64 code, .int .i64 0, .int .i64 0, .int .i64 0, .string ByteArray.empty, .bool false, .int .i64 0, .int .i64 0, .slice none 0 0, .slice none 0 0, .bool false, .int .i64 0, .int .i64 0, .int .i64 0, .int .i64 0, .string ByteArray.empty]) (results_cellBlk rfl rfl hF (by kernel_rfl) tellT_agg) rfl ⟨⟨107, tag, code, 0, 0, 0, [], ⟨false, 0, 0⟩, [], [], ⟨false, 0, 0⟩, 0, 0, []⟩, none, 0, 0, none, 0, 0, Lib.hid (by rfl), rfl, Lib.hid (.inr ⟨by rfl, rfl, rfl, rfl⟩), Lib.hid (.inr ⟨by rfl, rfl, rfl, rfl⟩), hkF.under (Nat.le_refl _) (fun k hk e => by rcases e with rfl | rfl <;> omega)⟩
set_option maxRecDepth 100000 in
set_option maxHeartbeats 8000000 in
theorem own18_109 (tag code msize iounit count : Int) (name : List UInt8) (qdir : Bool) (qver qpath : Int) (qids : List QidV) (data : List UInt8) (sdir : Bool) (sver spath smode ssize : Int) (sname : List UInt8) (Aq : Option Addr) (nq cq : Nat) (Ad : Option Addr) (nd cd : Nat) (w : World) :
    Calls Try.prog 31 #[.agg #[.int .i64 109, .int .i64 tag, .int .i64 code, .int .i64 msize, .int .i64 iounit, .int .i64 count, .string (st name), .bool qdir, .int .i64 qver, .int .i64 qpath, .slice Aq nq cq, .slice Ad nd cd, .bool sdir, .int .i64 sver, .int .i64 spath, .int .i64 smode, .int .i64 ssize, .string (st sname)]] w (OwnTPost ⟨109, tag, code, msize, iounit, count, name, ⟨qdir, qver, qpath⟩, qids, data, ⟨sdir, sver, spath⟩, smode, ssize, sname⟩ Aq nq cq Ad nd cd w) := by
  have hA0 := Blk.new w 29 [.int .i64 109, .int .i64 tag, .int .i64 code, .int .i64 msize, .int .i64 iounit, .int .i64 count, .string (st name), .bool qdir, .int .i64 qver, .int .i64 qpath, .slice Aq nq cq, .slice Ad nd cd, .bool sdir, .int .i64 sver, .int .i64 spath, .int .i64 smode, .int .i64 ssize, .string (st sname)]
  have hZ0 := Blk.new (w.alloc (.cells #[.int .i64 109, .int .i64 tag, .int .i64 code, .int .i64 msize, .int .i64 iounit, .int .i64 count, .string (st name), .bool qdir, .int .i64 qver, .int .i64 qpath, .slice Aq nq cq, .slice Ad nd cd, .bool sdir, .int .i64 sver, .int .i64 spath, .int .i64 smode, .int .i64 ssize, .string (st sname)] 29)) 29 [.int .i64 0, .int .i64 0, .int .i64 0, .int .i64 0, .int .i64 0, .int .i64 0, .string ByteArray.empty, .bool false, .int .i64 0, .int .i64 0, .slice none 0 0, .slice none 0 0, .bool false, .int .i64 0, .int .i64 0, .int .i64 0, .int .i64 0, .string ByteArray.empty]
  have hX0 := Blk.new ((w.alloc (.cells #[.int .i64 109, .int .i64 tag, .int .i64 code, .int .i64 msize, .int .i64 iounit, .int .i64 count, .string (st name), .bool qdir, .int .i64 qver, .int .i64 qpath, .slice Aq nq cq, .slice Ad nd cd, .bool sdir, .int .i64 sver, .int .i64 spath, .int .i64 smode, .int .i64 ssize, .string (st sname)] 29)).alloc (.cells #[.int .i64 0, .int .i64 0, .int .i64 0, .int .i64 0, .int .i64 0, .int .i64 0, .string ByteArray.empty, .bool false, .int .i64 0, .int .i64 0, .slice none 0 0, .slice none 0 0, .bool false, .int .i64 0, .int .i64 0, .int .i64 0, .int .i64 0, .string ByteArray.empty] 29)) 29 [.int .i64 0, .int .i64 0, .int .i64 0, .int .i64 0, .int .i64 0, .int .i64 0, .string ByteArray.empty, .bool false, .int .i64 0, .int .i64 0, .slice none 0 0, .slice none 0 0, .bool false, .int .i64 0, .int .i64 0, .int .i64 0, .int .i64 0, .string ByteArray.empty]
  obtain ⟨W2, hW2⟩ : ∃ x, x = ((w.alloc (.cells #[.int .i64 109, .int .i64 tag, .int .i64 code, .int .i64 msize, .int .i64 iounit, .int .i64 count, .string (st name), .bool qdir, .int .i64 qver, .int .i64 qpath, .slice Aq nq cq, .slice Ad nd cd, .bool sdir, .int .i64 sver, .int .i64 spath, .int .i64 smode, .int .i64 ssize, .string (st sname)] 29)).alloc (.cells #[.int .i64 0, .int .i64 0, .int .i64 0, .int .i64 0, .int .i64 0, .int .i64 0, .string ByteArray.empty, .bool false, .int .i64 0, .int .i64 0, .slice none 0 0, .slice none 0 0, .bool false, .int .i64 0, .int .i64 0, .int .i64 0, .int .i64 0, .string ByteArray.empty] 29)).alloc (.cells #[.int .i64 0, .int .i64 0, .int .i64 0, .int .i64 0, .int .i64 0, .int .i64 0, .string ByteArray.empty, .bool false, .int .i64 0, .int .i64 0, .slice none 0 0, .slice none 0 0, .bool false, .int .i64 0, .int .i64 0, .int .i64 0, .int .i64 0, .string ByteArray.empty] 29) := ⟨_, rfl⟩
  have hs : W2.heap.size = w.heap.size + 3 := by rw [hW2]; simp
  have hA2 : Blk W2 w.heap.size 29 [.int .i64 109, .int .i64 tag, .int .i64 code, .int .i64 msize, .int .i64 iounit, .int .i64 count, .string (st name), .bool qdir, .int .i64 qver, .int .i64 qpath, .slice Aq nq cq, .slice Ad nd cd, .bool sdir, .int .i64 sver, .int .i64 spath, .int .i64 smode, .int .i64 ssize, .string (st sname)] := by rw [hW2]; exact (hA0.alloc _).alloc _
  have hZ2 : Blk W2 (w.heap.size + 1) 29 [.int .i64 0, .int .i64 0, .int .i64 0, .int .i64 0, .int .i64 0, .int .i64 0, .string ByteArray.empty, .bool false, .int .i64 0, .int .i64 0, .slice none 0 0, .slice none 0 0, .bool false, .int .i64 0, .int .i64 0, .int .i64 0, .int .i64 0, .string ByteArray.empty] := by rw [hW2]; have := hZ0.alloc (.cells #[.int .i64 0, .int .i64 0, .int .i64 0, .int .i64 0, .int .i64 0, .int .i64 0, .string ByteArray.empty, .bool false, .int .i64 0, .int .i64 0, .slice none 0 0, .slice none 0 0, .bool false, .int .i64 0, .int .i64 0, .int .i64 0, .int .i64 0, .string ByteArray.empty] 29); simpa using this
  have hX2 : Blk W2 (w.heap.size + 1 + 1) 29 [.int .i64 0, .int .i64 0, .int .i64 0, .int .i64 0, .int .i64 0, .int .i64 0, .string ByteArray.empty, .bool false, .int .i64 0, .int .i64 0, .slice none 0 0, .slice none 0 0, .bool false, .int .i64 0, .int .i64 0, .int .i64 0, .int .i64 0, .string ByteArray.empty] := by rw [hW2]; have := hX0; simpa using this
  obtain ⟨gX, hgX⟩ : ∃ x, x = w.heap.size + 1 + 1 := ⟨_, rfl⟩
  obtain ⟨gZ, hgZ⟩ : ∃ x, x = w.heap.size + 1 := ⟨_, rfl⟩
  have hX2' := hX2
  rw [← hgX] at hX2
  rw [← hgZ] at hZ2
  have gA_ne : w.heap.size ≠ gX := by omega
  have gZ_ne : gZ ≠ gX := by omega
  have gZ_le : w.heap.size ≤ gZ := by omega
  have gX_le : w.heap.size ≤ gX := by omega
  have hk2 : Keeps (Is gX) w W2 := by rw [hW2]; exact ((((Keeps.refl _ _).alloc _).alloc _).alloc _)
  have hA3 := hA2.keeps (keeps_setRow W2 (g := gX) #[.int .i64 109, .int .i64 tag, .int .i64 0, .int .i64 0, .int .i64 0, .int .i64 0, .string ByteArray.empty, .bool false, .int .i64 0, .int .i64 0, .slice none 0 0, .slice none 0 0, .bool false, .int .i64 0, .int .i64 0, .int .i64 0, .int .i64 0, .string ByteArray.empty]) gA_ne
  have hZ3 := hZ2.keeps (keeps_setRow W2 (g := gX) #[.int .i64 109, .int .i64 tag, .int .i64 0, .int .i64 0, .int .i64 0, .int .i64 0, .string ByteArray.empty, .bool false, .int .i64 0, .int .i64 0, .slice none 0 0, .slice none 0 0, .bool false, .int .i64 0, .int .i64 0, .int .i64 0, .int .i64 0, .string ByteArray.empty]) gZ_ne
  have hX3 := hX2.setRow [.int .i64 109, .int .i64 tag, .int .i64 0, .int .i64 0, .int .i64 0, .int .i64 0, .string ByteArray.empty, .bool false, .int .i64 0, .int .i64 0, .slice none 0 0, .slice none 0 0, .bool false, .int .i64 0, .int .i64 0, .int .i64 0, .int .i64 0, .string ByteArray.empty]
  have hk3 := hk2.trans (keeps_setRow W2 (g := gX) #[.int .i64 109, .int .i64 tag, .int .i64 0, .int .i64 0, .int .i64 0, .int .i64 0, .string ByteArray.empty, .bool false, .int .i64 0, .int .i64 0, .slice none 0 0, .slice none 0 0, .bool false, .int .i64 0, .int .i64 0, .int .i64 0, .int .i64 0, .string ByteArray.empty])
  have hW3 : W2 = ((w.alloc (.cells #[.int .i64 109, .int .i64 tag, .int .i64 code, .int .i64 msize, .int .i64 iounit, .int .i64 count, .string (st name), .bool qdir, .int .i64 qver, .int .i64 qpath, .slice Aq nq cq, .slice Ad nd cd, .bool sdir, .int .i64 sver, .int .i64 spath, .int .i64 smode, .int .i64 ssize, .string (st sname)] 29)).alloc (.cells #[.int .i64 0, .int .i64 0, .int .i64 0, .int .i64 0, .int .i64 0, .int .i64 0, .string ⟨#[]⟩, .bool false, .int .i64 0, .int .i64 0, .slice none 0 0, .slice none 0 0, .bool false, .int .i64 0, .int .i64 0, .int .i64 0, .int .i64 0, .string ⟨#[]⟩] 29)).alloc (.cells #[.int .i64 0, .int .i64 0, .int .i64 0, .int .i64 0, .int .i64 0, .int .i64 0, .string ⟨#[]⟩, .bool false, .int .i64 0, .int .i64 0, .slice none 0 0, .slice none 0 0, .bool false, .int .i64 0, .int .i64 0, .int .i64 0, .int .i64 0, .string ⟨#[]⟩] 29) := hW2
  have HA := Lib.hid hA3
  have HZ := Lib.hid hZ3
  have HX := Lib.hid hX3
  have HY := Lib.hid hX2'
  have HK0 := Lib.hid hk3
  have GX := Lib.hid hgX
  have GZ := Lib.hid hgZ
  have HW := Lib.hid hW3
  clear hA0 hZ0 hX0 hA2 hZ2 hX2 hk2 hW2 hgX hgZ hs hA3 hZ3 hX3 hX2' hk3 hW3
  go_enter Try.func31, Try.ntmps31
  go_upto_region 3 with (rw [← HW.out]; refine wpList_storeBlk rfl (.tmp 4) (.tmp 10) rfl rfl [.int .i64 109, .int .i64 tag, .int .i64 0, .int .i64 0, .int .i64 0, .int .i64 0, .string ⟨#[]⟩, .bool false, .int .i64 0, .int .i64 0, .slice none 0 0, .slice none 0 0, .bool false, .int .i64 0, .int .i64 0, .int .i64 0, .int .i64 0, .string ⟨#[]⟩] rfl rfl (by kernel_rfl) HY.out rfl (by simp [Value.oneCell']) ?_)
  rw [← GX.out, ← GZ.out]
  clear HW HY
  generalize hW4 : W2.setRow gX #[.int .i64 109, .int .i64 tag, .int .i64 0, .int .i64 0, .int .i64 0, .int .i64 0, .string ByteArray.empty, .bool false, .int .i64 0, .int .i64 0, .slice none 0 0, .slice none 0 0, .bool false, .int .i64 0, .int .i64 0, .int .i64 0, .int .i64 0, .string ByteArray.empty] = W4 at HA HZ HX HK0
  have hW5 : W2.setRow gX #[.int .i64 109, .int .i64 tag, .int .i64 0, .int .i64 0, .int .i64 0, .int .i64 0, .string ⟨#[]⟩, .bool false, .int .i64 0, .int .i64 0, .slice none 0 0, .slice none 0 0, .bool false, .int .i64 0, .int .i64 0, .int .i64 0, .int .i64 0, .string ⟨#[]⟩] = W4 := hW4
  rw [hW5]
  clear hW4 hW5
  have HK := Lib.hid (Keeps.refl (Is gX) W4)
  go_wp2_with fail
  refine (tHas_any 109 122 _).mono ?_
  rintro e wh ⟨rfl, hb⟩
  rw [show hasM 109 122 = false by decide]
  have hX := HX.out.up hb
  have hK := HK.out.trans (Keeps.of_below hb)
  clear HX HK hb
  have HX := Lib.hid hX
  have HK := Lib.hid hK
  clear hX hK
  go_wp2_with fail
  refine (tHas_any 109 113 _).mono ?_
  rintro e wh ⟨rfl, hb⟩
  rw [show hasM 109 113 = false by decide]
  have hX := HX.out.up hb
  have hK := HK.out.trans (Keeps.of_below hb)
  clear HX HK hb
  have HX := Lib.hid hX
  have HK := Lib.hid hK
  clear hX hK
  go_wp2_with fail
  refine (tHas_any 109 101 _).mono ?_
  rintro e wh ⟨rfl, hb⟩
  rw [show hasM 109 101 = false by decide]
  have hX := HX.out.up hb
  have hK := HK.out.trans (Keeps.of_below hb)
  clear HX HK hb
  have HX := Lib.hid hX
  have HK := Lib.hid hK
  clear hX hK
  go_wp2_with fail
  refine (tHas_any 109 108 _).mono ?_
  rintro e wh ⟨rfl, hb⟩
  rw [show hasM 109 108 = false by decide]
  have hX := HX.out.up hb
  have hK := HK.out.trans (Keeps.of_below hb)
  clear HX HK hb
  have HX := Lib.hid hX
  have HK := Lib.hid hK
  clear hX hK
  go_wp2_with fail
  refine (tHas_any 109 105 _).mono ?_
  rintro e wh ⟨rfl, hb⟩
  rw [show hasM 109 105 = false by decide]
  have hX := HX.out.up hb
  have hK := HK.out.trans (Keeps.of_below hb)
  clear HX HK hb
  have HX := Lib.hid hX
  have HK := Lib.hid hK
  clear hX hK
  go_wp2_with fail
  refine (tHas_any 109 100 _).mono ?_
  rintro e wh ⟨rfl, hb⟩
  rw [show hasM 109 100 = false by decide]
  have hX := HX.out.up hb
  have hK := HK.out.trans (Keeps.of_below hb)
  clear HX HK hb
  have HX := Lib.hid hX
  have HK := Lib.hid hK
  clear hX hK
  go_wp2_with fail
  refine (tHas_any 109 99 _).mono ?_
  rintro e wh ⟨rfl, hb⟩
  rw [show hasM 109 99 = false by decide]
  have hX := HX.out.up hb
  have hK := HK.out.trans (Keeps.of_below hb)
  clear HX HK hb
  have HX := Lib.hid hX
  have HK := Lib.hid hK
  clear hX hK
  go_wp2_with fail
  refine (tHas_any 109 115 _).mono ?_
  rintro e wh ⟨rfl, hb⟩
  rw [show hasM 109 115 = false by decide]
  have hX := HX.out.up hb
  have hK := HK.out.trans (Keeps.of_below hb)
  clear HX HK hb
  have HX := Lib.hid hX
  have HK := Lib.hid hK
  clear hX hK
  have hZf := HZ.out.keeps HK.out gZ_ne
  go_wp2_with (first | refine wpList_loadBlk rfl (.tmp 4) rfl rfl (by kernel_rfl) tellT_agg HX.out ?_ | refine wpList_storeBlk rfl (.tmp 2) (.tmp 54) rfl rfl [.int .i64 109, .int .i64 tag, .int .i64 0, .int .i64 0, .int .i64 0, .int .i64 0, .string ByteArray.empty, .bool false, .int .i64 0, .int .i64 0, .slice none 0 0, .slice none 0 0, .bool false, .int .i64 0, .int .i64 0, .int .i64 0, .int .i64 0, .string ByteArray.empty] rfl rfl (by kernel_rfl) hZf rfl (by simp [Value.oneCell']) ?_)
  have hF := hZf.setRow [.int .i64 109, .int .i64 tag, .int .i64 0, .int .i64 0, .int .i64 0, .int .i64 0, .string ByteArray.empty, .bool false, .int .i64 0, .int .i64 0, .slice none 0 0, .slice none 0 0, .bool false, .int .i64 0, .int .i64 0, .int .i64 0, .int .i64 0, .string ByteArray.empty]
  have hkF := ((HK0.out.trans HK.out).mono (G' := fun k => k = gZ ∨ k = gX) (fun k _ e => .inr e)).trans ((keeps_setRow (g := gZ) _ #[.int .i64 109, .int .i64 tag, .int .i64 0, .int .i64 0, .int .i64 0, .int .i64 0, .string ByteArray.empty, .bool false, .int .i64 0, .int .i64 0, .slice none 0 0, .slice none 0 0, .bool false, .int .i64 0, .int .i64 0, .int .i64 0, .int .i64 0, .string ByteArray.empty]).mono fun k _ e => .inl e)
  exact bodyPost_ret (v := .agg #[.int .i64 109, .int .i64 tag, .int .i64 0, .int .i64 0, .int .i64 0, .int .i64 0, .string ByteArray.empty, .bool false, .int .i64 0, .int .i64 0, .slice none 0 0, .slice none 0 0, .bool false, .int .i64 0, .int .i64 0, .int .i64 0, .int .i64 0, .string ByteArray.empty]) (results_cellBlk rfl rfl hF (by kernel_rfl) tellT_agg) rfl ⟨⟨109, tag, 0, 0, 0, 0, [], ⟨false, 0, 0⟩, [], [], ⟨false, 0, 0⟩, 0, 0, []⟩, none, 0, 0, none, 0, 0, Lib.hid (by rfl), rfl, Lib.hid (.inr ⟨by rfl, rfl, rfl, rfl⟩), Lib.hid (.inr ⟨by rfl, rfl, rfl, rfl⟩), hkF.under (Nat.le_refl _) (fun k hk e => by rcases e with rfl | rfl <;> omega)⟩
end Go.Proofs.Ytoplkglnjgllnaa
