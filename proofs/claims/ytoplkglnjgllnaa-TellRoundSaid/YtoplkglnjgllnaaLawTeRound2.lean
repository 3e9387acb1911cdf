/-
  The law TellRound.
-/
import Derived.Test.YtoplkglnjgllnaaTeB
import Derived.Test.YtoplkglnjgllnaaTellT
import Derived.Test.YtoplkglnjgllnaaTellN
namespace Go.Proofs.Ytoplkglnjgllnaa
open Go.RowKit
set_option linter.unusedVariables false
set_option linter.unusedSimpArgs false

theorem tWrite_ok (t : TellV) (Aq : Option Addr) (nq cq : Nat) (Ad : Option Addr) (nd cd : Nat) (w : World) (h : TellRd w t Aq nq cq Ad nd cd) :
    Calls Try.prog 17 #[.agg (tellC t Aq nq cq Ad nd cd).toArray] w (WriteT t w) :=
  tWrite_any t.kind t.tag t.code t.msize t.iounit t.count t.name t.qid.dir t.qid.ver t.qid.path t.qids t.data t.sqid.dir t.sqid.ver t.sqid.path t.smode t.ssize t.sname Aq nq cq Ad nd cd w h.q h.d (by have := h.nq_le; omega) (by have := h.nd_le; omega) (by have := h.name; omega) (by have := h.sname; omega) (by have := h.nd_le; omega)

theorem packL_len18 (k t : Nat) (b : List UInt8) : (packL k t b).length = 7 + b.length := by simp [packL, le_length]; omega
theorem layB_small (t : TellV) (hd : t.data.length ≤ 1000) : (layB t).length ≤ 2000 := by
  have h := partsM_mem t.kind
  have h1 := txtB_len t.name
  have h2 := qidsB_len t.qids
  have h3 := statB_len t.sqid t.smode t.ssize t.sname
  unfold layB layS lay0
  generalize partsM t.kind = p at h
  simp only [List.mem_cons, List.not_mem_nil, or_false] at h
  rcases h with rfl | rfl | rfl | rfl | rfl | rfl | rfl | rfl | rfl <;> simp [stepT, partB, partT, le_length, qidB_len] <;> omega
theorem good_rd18 {w w' : World} {t x : TellV} {Aq : Option Addr} {nq cq : Nat} {Ad : Option Addr} {nd cd : Nat} (hx : x = goodT t) (hq : OwR w' w.heap.size 23 3 Aq nq cq (x.qids.map qidC)) (hd : OwB w' w.heap.size Ad nd cd x.data) : TellRd w' x Aq nq cq Ad nd cd := by
  have hl := goodT_lens t
  rw [← hx] at hl
  have h1 := hq.len
  have h2 := hd.len
  simp only [List.length_map] at h1
  exact ⟨hq.rd, hd.rd, by omega, by omega, by omega, by omega⟩

set_option maxRecDepth 200000 in
set_option maxHeartbeats 8000000 in
theorem tellRound_walk (ta : TellV) (Aa : Option Addr) (na ca : Nat) (Da : Option Addr) (da ea : Nat) (w : World) (hoka : TellOk w w.heap.size ta Aa na ca Da da ea) :
    Calls Try.prog 8 #[.agg (tellC ta Aa na ca Da da ea).toArray] w fun e w' => e = .returned (.bool true) ∧ Below w.heap.size w w' := by
  have hA0 := Blk.new w 29 (tellC ta Aa na ca Da da ea)
  obtain ⟨W2, hW2⟩ : ∃ x, x = w.alloc (.cells (tellC ta Aa na ca Da da ea).toArray 29) := ⟨_, rfl⟩
  have hA2 : Blk W2 w.heap.size 29 (tellC ta Aa na ca Da da ea) := by rw [hW2]; exact hA0
  have hb2 : Below w.heap.size w W2 := by rw [hW2]; exact (Below.refl _ _).alloc (Nat.le_refl _) _
  have HOK := Lib.hid (show TellOk W2 W2.heap.size ta Aa na ca Da da ea from { (hoka.up hb2) with qids := (hoka.qids.below hb2).more hb2.size, data := (hoka.data.below hb2).more hb2.size })
  have HA := Lib.hid hA2
  have HB2 := Lib.hid hb2
  have HW2 := Lib.hid hW2
  clear hA0 hA2 hb2 hW2 hoka
  go_enter Try.func8, Try.ntmps8
  go_upto_region 1 with fail
  rw [← HW2.out]
  go_wp2_with (refine wpList_loadBlk rfl (.tmp 1) rfl rfl (by kernel_rfl) tellT_agg HA.out ?_; simp only [Act.put, List.setIfInBounds_toArray, List.set_cons_succ, List.set_cons_zero])
  refine (goodT_ok ta Aa na ca Da da ea _ HOK.out).mono ?_
  rintro e w3 ⟨x, Xq, mq, dq, Xd, md, dd, hx, rfl, hq0, hd0, hb3⟩
  have h0 := good_rd18 hx.out hq0 hd0
  have hok : layOk x = true := by rw [hx.out]; exact good_ok18 ta
  have hld : x.data.length ≤ 1000000 := by have := h0.d.len; have := h0.nd_le; omega
  have hrw := read_write x hok hld
  have HB3 := Lib.hid (HB2.out.trans (hb3.mono HB2.out.size))
  have HOKX := Lib.hid hok
  have HRW := Lib.hid hrw
  have hXa : Blk (w3.alloc (.cells #[.int .i64 0, .int .i64 0, .int .i64 0, .int .i64 0, .int .i64 0, .int .i64 0, .string ⟨#[]⟩, .bool false, .int .i64 0, .int .i64 0, .slice none 0 0, .slice none 0 0, .bool false, .int .i64 0, .int .i64 0, .int .i64 0, .int .i64 0, .string ⟨#[]⟩] 29)) w3.heap.size 29 [.int .i64 0, .int .i64 0, .int .i64 0, .int .i64 0, .int .i64 0, .int .i64 0, .string ByteArray.empty, .bool false, .int .i64 0, .int .i64 0, .slice none 0 0, .slice none 0 0, .bool false, .int .i64 0, .int .i64 0, .int .i64 0, .int .i64 0, .string ByteArray.empty] := Blk.new w3 29 [.int .i64 0, .int .i64 0, .int .i64 0, .int .i64 0, .int .i64 0, .int .i64 0, .string ByteArray.empty, .bool false, .int .i64 0, .int .i64 0, .slice none 0 0, .slice none 0 0, .bool false, .int .i64 0, .int .i64 0, .int .i64 0, .int .i64 0, .string ByteArray.empty]
  have hX := hXa.setRow (tellC x Xq mq dq Xd md dd)
  have hk4 := keeps_setRow (w3.alloc (.cells #[.int .i64 0, .int .i64 0, .int .i64 0, .int .i64 0, .int .i64 0, .int .i64 0, .string ⟨#[]⟩, .bool false, .int .i64 0, .int .i64 0, .slice none 0 0, .slice none 0 0, .bool false, .int .i64 0, .int .i64 0, .int .i64 0, .int .i64 0, .string ⟨#[]⟩] 29)) (g := w3.heap.size) (tellC x Xq mq dq Xd md dd).toArray
  have hb34 : Below w3.heap.size w3 ((w3.alloc (.cells #[.int .i64 0, .int .i64 0, .int .i64 0, .int .i64 0, .int .i64 0, .int .i64 0, .string ⟨#[]⟩, .bool false, .int .i64 0, .int .i64 0, .slice none 0 0, .slice none 0 0, .bool false, .int .i64 0, .int .i64 0, .int .i64 0, .int .i64 0, .string ⟨#[]⟩] 29)).setRow w3.heap.size (tellC x Xq mq dq Xd md dd).toArray) := ((Below.refl _ _).alloc (Nat.le_refl _) _).trans (hk4.is (Nat.le_refl _) (by simp))
  have h4 := h0.up hb34
  have hb4 := HB3.out.trans (hb34.mono HB3.out.size)
  clear hx hq0 hd0 hb3 hok hld hrw hk4 h0 hb34
  go_upto_region 2 with (refine wpList_storeBlk rfl (.tmp 3) (.tmp 9) rfl rfl (tellC x Xq mq dq Xd md dd) rfl rfl (by kernel_rfl) hXa rfl (tellC_one x Xq mq dq Xd md dd) ?_)
  obtain ⟨gX, hgX⟩ : ∃ g, g = w3.heap.size := ⟨_, rfl⟩
  generalize (w3.alloc (.cells #[.int .i64 0, .int .i64 0, .int .i64 0, .int .i64 0, .int .i64 0, .int .i64 0, .string ⟨#[]⟩, .bool false, .int .i64 0, .int .i64 0, .slice none 0 0, .slice none 0 0, .bool false, .int .i64 0, .int .i64 0, .int .i64 0, .int .i64 0, .string ⟨#[]⟩] 29)).setRow w3.heap.size (tellC x Xq mq dq Xd md dd).toArray = w4 at hX h4 hb4 ⊢
  rw [← hgX] at hX ⊢
  have HX := Lib.hid hX
  have HR4 := Lib.hid h4
  have HB4 := Lib.hid hb4
  clear hX h4 hb4 hXa hgX
  go_wp2_with (refine wpList_loadBlk rfl (.tmp 3) rfl rfl (by kernel_rfl) tellT_agg HX.out ?_; simp only [Act.put, List.setIfInBounds_toArray, List.set_cons_succ, List.set_cons_zero])
  refine (tWrite_ok x Xq mq dq Xd md dd _ HR4.out).mono ?_
  rintro e w5 ⟨A, n, c, l, er, hl, her, rfl, hown, hb5⟩
  have hl' : l = packL (n8 x.kind) (n16 x.tag) (layB x) := by rw [hl.out]; exact if_pos HOKX.out
  have he : er = 0 := by rw [her.out]; exact if_pos HOKX.out
  subst he
  have hrd : readR l = (x, 0) := by rw [hl']; exact HRW.out
  have hcap := hown.cap
  have hnl : n ≤ 1000000 := by
    rw [← hown.len, hl', packL_len18]
    have := layB_small x (by have := HR4.out.d.len; have := HR4.out.nd_le; omega)
    omega
  have HRD := Lib.hid hown.rd
  have HRL := Lib.hid hrd
  have HX5 := Lib.hid (HX.out.up hb5)
  have HR5 := Lib.hid (HR4.out.up hb5)
  have HB5 := Lib.hid (HB4.out.trans (hb5.mono HB4.out.size))
  clear hl her hl' hown hb5 hrd
  go_wp2_with fail
  refine (tRead_any A n c l _ HRD.out hcap.1 hcap.2 hnl).mono ?_
  rintro e w6 ⟨y, Yq, pq, qq, Yd, pd, qd, er2, hy, her2, _, rfl, hoq, hod, hb6⟩
  have hy2 : y = x := by rw [hy.out, HRL.out]
  have he2 : er2 = 0 := by rw [her2.out, HRL.out]
  subst hy2
  subst he2
  have hq8 := HR5.out.q.len
  have hd8 := HR5.out.d.len
  have hq9 := hoq.len
  have hd9 := hod.len
  have hY : TellRd w6 y Yq pq qq Yd pd qd := ⟨hoq.rd, hod.rd, by have := HR5.out.nq_le; omega, by have := HR5.out.nd_le; omega, HR5.out.name, HR5.out.sname⟩
  have HX6 := Lib.hid (HX5.out.up hb6)
  have HR6 := Lib.hid (HR5.out.up hb6)
  have HB6 := Lib.hid (HB5.out.trans (hb6.mono HB5.out.size))
  have hYa : Blk (w6.alloc (.cells #[.int .i64 0, .int .i64 0, .int .i64 0, .int .i64 0, .int .i64 0, .int .i64 0, .string ⟨#[]⟩, .bool false, .int .i64 0, .int .i64 0, .slice none 0 0, .slice none 0 0, .bool false, .int .i64 0, .int .i64 0, .int .i64 0, .int .i64 0, .string ⟨#[]⟩] 29)) w6.heap.size 29 [.int .i64 0, .int .i64 0, .int .i64 0, .int .i64 0, .int .i64 0, .int .i64 0, .string ByteArray.empty, .bool false, .int .i64 0, .int .i64 0, .slice none 0 0, .slice none 0 0, .bool false, .int .i64 0, .int .i64 0, .int .i64 0, .int .i64 0, .string ByteArray.empty] := Blk.new w6 29 [.int .i64 0, .int .i64 0, .int .i64 0, .int .i64 0, .int .i64 0, .int .i64 0, .string ByteArray.empty, .bool false, .int .i64 0, .int .i64 0, .slice none 0 0, .slice none 0 0, .bool false, .int .i64 0, .int .i64 0, .int .i64 0, .int .i64 0, .string ByteArray.empty]
  have hYX := hYa.setRow (tellC y Yq pq qq Yd pd qd)
  have hk7 := keeps_setRow (w6.alloc (.cells #[.int .i64 0, .int .i64 0, .int .i64 0, .int .i64 0, .int .i64 0, .int .i64 0, .string ⟨#[]⟩, .bool false, .int .i64 0, .int .i64 0, .slice none 0 0, .slice none 0 0, .bool false, .int .i64 0, .int .i64 0, .int .i64 0, .int .i64 0, .string ⟨#[]⟩] 29)) (g := w6.heap.size) (tellC y Yq pq qq Yd pd qd).toArray
  have hb67 : Below w6.heap.size w6 ((w6.alloc (.cells #[.int .i64 0, .int .i64 0, .int .i64 0, .int .i64 0, .int .i64 0, .int .i64 0, .string ⟨#[]⟩, .bool false, .int .i64 0, .int .i64 0, .slice none 0 0, .slice none 0 0, .bool false, .int .i64 0, .int .i64 0, .int .i64 0, .int .i64 0, .string ⟨#[]⟩] 29)).setRow w6.heap.size (tellC y Yq pq qq Yd pd qd).toArray) := ((Below.refl _ _).alloc (Nat.le_refl _) _).trans (hk7.is (Nat.le_refl _) (by simp))
  have h7 := hY.up hb67
  have hR7 := HR6.out.up hb67
  have hX7 := HX6.out.up hb67
  have hb7 := HB6.out.trans (hb67.mono HB6.out.size)
  clear hy her2 hoq hod hb6 hY hk7 hb67 hq8 hd8 hq9 hd9
  go_upto_region 4 with (refine wpList_storeBlk rfl (.tmp 6) (.tmp 18) rfl rfl (tellC y Yq pq qq Yd pd qd) rfl rfl (by kernel_rfl) hYa rfl (tellC_one y Yq pq qq Yd pd qd) ?_)
  obtain ⟨gY, hgY⟩ : ∃ g, g = w6.heap.size := ⟨_, rfl⟩
  generalize (w6.alloc (.cells #[.int .i64 0, .int .i64 0, .int .i64 0, .int .i64 0, .int .i64 0, .int .i64 0, .string ⟨#[]⟩, .bool false, .int .i64 0, .int .i64 0, .slice none 0 0, .slice none 0 0, .bool false, .int .i64 0, .int .i64 0, .int .i64 0, .int .i64 0, .string ⟨#[]⟩] 29)).setRow w6.heap.size (tellC y Yq pq qq Yd pd qd).toArray = w7 at hYX h7 hR7 hX7 hb7 ⊢
  rw [← hgY] at hYX ⊢
  have HX7 := Lib.hid hX7
  have HY7 := Lib.hid hYX
  have HR7 := Lib.hid hR7
  have HQ7 := Lib.hid h7
  have HB7 := Lib.hid hb7
  clear hYX h7 hR7 hX7 hb7 hYa hgY
  have cX : ∀ k v, (tellC y Xq mq dq Xd md dd)[k]? = some v → w7.cell? ⟨gX, 0 + k, none⟩ = some v := fun k v hk => by rw [Nat.zero_add]; exact HX7.out.cell k v hk
  have cY : ∀ k v, (tellC y Yq pq qq Yd pd qd)[k]? = some v → w7.cell? ⟨gY, 0 + k, none⟩ = some v := fun k v hk => by rw [Nat.zero_add]; exact HY7.out.cell k v hk
  have CX := Lib.hid cX
  have CY := Lib.hid cY
  clear cX cY
  go_wp2_with first
    | (refine wpList_loadMid rfl (.tmp 6) rfl (xs := tellC y Yq pq qq Yd pd qd) rfl CY.out (by kernel_rfl) tellT_agg ?_; simp only [Act.put, List.setIfInBounds_toArray, List.set_cons_succ, List.set_cons_zero])
    | (refine wpList_loadMid rfl (.tmp 3) rfl (xs := tellC y Xq mq dq Xd md dd) rfl CX.out (by kernel_rfl) tellT_agg ?_; simp only [Act.put, List.setIfInBounds_toArray, List.set_cons_succ, List.set_cons_zero])
  refine (refSame_any y y Yq pq qq Yd pd qd Xq mq dq Xd md dd _ HQ7.out HR7.out).mono ?_
  rintro e w8 ⟨rfl, hb8⟩
  rw [sameT_refl]
  have HX8 := Lib.hid (HX7.out.up hb8)
  have HY8 := Lib.hid (HY7.out.up hb8)
  have HR8 := Lib.hid (HR7.out.up hb8)
  have HQ8 := Lib.hid (HQ7.out.up hb8)
  have HB8 := Lib.hid (HB7.out.trans (hb8.mono HB7.out.size))
  clear hb8
  have cX : ∀ k v, (tellC y Xq mq dq Xd md dd)[k]? = some v → w8.cell? ⟨gX, 0 + k, none⟩ = some v := fun k v hk => by rw [Nat.zero_add]; exact HX8.out.cell k v hk
  have cY : ∀ k v, (tellC y Yq pq qq Yd pd qd)[k]? = some v → w8.cell? ⟨gY, 0 + k, none⟩ = some v := fun k v hk => by rw [Nat.zero_add]; exact HY8.out.cell k v hk
  have CX := Lib.hid cX
  have CY := Lib.hid cY
  clear cX cY
  go_wp2_with first
    | (refine wpList_loadMid rfl (.tmp 6) rfl (xs := tellC y Yq pq qq Yd pd qd) rfl CY.out (by kernel_rfl) tellT_agg ?_; simp only [Act.put, List.setIfInBounds_toArray, List.set_cons_succ, List.set_cons_zero])
    | (refine wpList_loadMid rfl (.tmp 3) rfl (xs := tellC y Xq mq dq Xd md dd) rfl CX.out (by kernel_rfl) tellT_agg ?_; simp only [Act.put, List.setIfInBounds_toArray, List.set_cons_succ, List.set_cons_zero])
  refine (tellSame_any y y Yq pq qq Yd pd qd Xq mq dq Xd md dd _ HQ8.out HR8.out).mono ?_
  rintro e w9 ⟨rfl, hb9⟩
  rw [sameT_refl]
  have HB9 := Lib.hid (HB8.out.trans (hb9.mono HB8.out.size))
  clear hb9
  go_wp2_with fail
  refine (lives18_any _).mono ?_
  rintro e w10 ⟨rfl, hb10⟩
  have HB10 := Lib.hid (HB9.out.trans (hb10.mono HB9.out.size))
  clear hb10
  go_wp2
  go_ret
  exact ⟨rfl, HB10.out⟩
end Go.Proofs.Ytoplkglnjgllnaa
