/-
  The law TellErrors.
-/
import Derived.Test.YtoplkglnjgllnaaTeB
import Derived.Test.YtoplkglnjgllnaaTellN
namespace Go.Proofs.Ytoplkglnjgllnaa
open Go.RowKit
set_option linter.unusedVariables false
set_option linter.unusedSimpArgs false

set_option maxRecDepth 200000 in
set_option maxHeartbeats 8000000 in
theorem tellErrors_walk (tag code : Int) (w : World) (b0 : -9223372036854775808 ≤ tag) (t0 : tag ≤ 9223372036854775807) (b1 : -9223372036854775808 ≤ code) (t1 : code ≤ 9223372036854775807) :
    Calls Try.prog 9 #[.int .i64 tag, .int .i64 code] w fun e w' => e = .returned (.bool true) ∧ Below w.heap.size w w' := by
  go_enter Try.func9, Try.ntmps9
  go_wp2_with fail
  refine (around_any tag 65536 _ b0 t0 (by omega) (by omega)).mono ?_
  rintro e w1 ⟨kt, _, hkt, rfl, rfl⟩
  go_wp2_with fail
  refine (around_any code 65536 _ b1 t1 (by omega) (by omega)).mono ?_
  rintro e w1 ⟨kc, _, hkc, rfl, rfl⟩
  go_wp2_with fail
  refine (tError_any kt kc _).mono ?_
  rintro e w1 ⟨rfl, hb1⟩
  go_wp2_with fail
  refine (tWrite_any 107 kt kc 0 0 0 [] false 0 0 [] [] false 0 0 0 0 [] none 0 0 none 0 0 w1 RdR.nil RdB.nil (by omega) (by omega) (by simp) (by simp) (by omega)).mono ?_
  rintro e w2 ⟨A, n, c, l, er, hl, her, rfl, hown, hb2⟩
  obtain ⟨t, ht⟩ : ∃ t : TellV, t = ⟨107, kt, kc, 0, 0, 0, [], qidZ, [], [], qidZ, 0, 0, []⟩ := ⟨_, rfl⟩
  have hok : layOk t = true := by
    rw [ht, okM_107]
    simp [inB]; omega
  have hl' : l = packL (n8 t.kind) (n16 t.tag) (layB t) := by
    rw [hl.out]
    rw [ht] at hok ⊢
    exact if_pos hok
  have he : er = 0 := by
    rw [her.out]
    rw [ht] at hok
    exact if_pos hok
  have hn : n = 9 := by
    rw [← hown.len, hl', ht, layB_107]
    simp [packL, le_length]
  have hrw := read_write t hok (by rw [ht]; exact Nat.zero_le _)
  rw [← hl'] at hrw
  subst he
  subst hn
  have hcap := hown.cap
  have HB2 := Lib.hid (Up.trans hb1 hb2)
  have HRD := Lib.hid hown.rd
  have HRW := Lib.hid hrw
  have HT := Lib.hid ht
  clear hl her hl' hok hown hb1 hb2 hrw ht
  go_wp2_with fail
  refine (tRead_any A 9 c l _ HRD.out hcap.1 hcap.2 (by omega)).mono ?_
  rintro e w3 ⟨x, Aq, nq, cq, Ad, nd, cd, er2, hx, her2, _, rfl, hoq, hod, hb3⟩
  have hx2 : x = ⟨107, kt, kc, 0, 0, 0, [], qidZ, [], [], qidZ, 0, 0, []⟩ := by rw [hx.out, HRW.out, HT.out]
  have he2 : er2 = 0 := by rw [her2.out, HRW.out]
  subst hx2
  subst he2
  simp only [tellC, qidZ]
  have HB3 := Lib.hid (Up.trans HB2.out hb3)
  clear hx her2 hoq hod hb3
  have hXa : Blk (w3.alloc (.cells #[.int .i64 0, .int .i64 0, .int .i64 0, .int .i64 0, .int .i64 0, .int .i64 0, .string ⟨#[]⟩, .bool false, .int .i64 0, .int .i64 0, .slice none 0 0, .slice none 0 0, .bool false, .int .i64 0, .int .i64 0, .int .i64 0, .int .i64 0, .string ⟨#[]⟩] 29)) w3.heap.size 29 [.int .i64 0, .int .i64 0, .int .i64 0, .int .i64 0, .int .i64 0, .int .i64 0, .string ByteArray.empty, .bool false, .int .i64 0, .int .i64 0, .slice none 0 0, .slice none 0 0, .bool false, .int .i64 0, .int .i64 0, .int .i64 0, .int .i64 0, .string ByteArray.empty] := Blk.new w3 29 [.int .i64 0, .int .i64 0, .int .i64 0, .int .i64 0, .int .i64 0, .int .i64 0, .string ByteArray.empty, .bool false, .int .i64 0, .int .i64 0, .slice none 0 0, .slice none 0 0, .bool false, .int .i64 0, .int .i64 0, .int .i64 0, .int .i64 0, .string ByteArray.empty]
  obtain ⟨gX, hgX⟩ : ∃ x, x = w3.heap.size := ⟨_, rfl⟩
  have hX := hXa.setRow [.int .i64 107, .int .i64 kt, .int .i64 kc, .int .i64 0, .int .i64 0, .int .i64 0, .string (st []), .bool false, .int .i64 0, .int .i64 0, .slice Aq nq cq, .slice Ad nd cd, .bool false, .int .i64 0, .int .i64 0, .int .i64 0, .int .i64 0, .string (st [])]
  have hb4 := below_setRow (HB3.out.alloc HB3.out.size (.cells #[.int .i64 0, .int .i64 0, .int .i64 0, .int .i64 0, .int .i64 0, .int .i64 0, .string ⟨#[]⟩, .bool false, .int .i64 0, .int .i64 0, .slice none 0 0, .slice none 0 0, .bool false, .int .i64 0, .int .i64 0, .int .i64 0, .int .i64 0, .string ⟨#[]⟩] 29)) HB3.out.size #[.int .i64 107, .int .i64 kt, .int .i64 kc, .int .i64 0, .int .i64 0, .int .i64 0, .string (st []), .bool false, .int .i64 0, .int .i64 0, .slice Aq nq cq, .slice Ad nd cd, .bool false, .int .i64 0, .int .i64 0, .int .i64 0, .int .i64 0, .string (st [])]
  go_upto_region 5 with (refine wpList_storeBlk rfl (.tmp 9) (.tmp 25) rfl rfl [.int .i64 107, .int .i64 kt, .int .i64 kc, .int .i64 0, .int .i64 0, .int .i64 0, .string (st []), .bool false, .int .i64 0, .int .i64 0, .slice Aq nq cq, .slice Ad nd cd, .bool false, .int .i64 0, .int .i64 0, .int .i64 0, .int .i64 0, .string (st [])] rfl rfl (by kernel_rfl) hXa rfl (by simp [Value.oneCell']) ?_)
  generalize (w3.alloc (.cells #[.int .i64 0, .int .i64 0, .int .i64 0, .int .i64 0, .int .i64 0, .int .i64 0, .string ⟨#[]⟩, .bool false, .int .i64 0, .int .i64 0, .slice none 0 0, .slice none 0 0, .bool false, .int .i64 0, .int .i64 0, .int .i64 0, .int .i64 0, .string ⟨#[]⟩] 29)).setRow w3.heap.size #[.int .i64 107, .int .i64 kt, .int .i64 kc, .int .i64 0, .int .i64 0, .int .i64 0, .string (st []), .bool false, .int .i64 0, .int .i64 0, .slice Aq nq cq, .slice Ad nd cd, .bool false, .int .i64 0, .int .i64 0, .int .i64 0, .int .i64 0, .string (st [])] = w4 at hX hb4 ⊢
  have x0 := hX.cell 0 _ rfl
  have x1 := hX.cell 1 _ rfl
  have x2 := hX.cell 2 _ rfl
  have HB4 := Lib.hid hb4
  clear hX hb4 hXa hgX
  go_wp2_with fail
  refine (lives18_any _).mono ?_
  rintro e w5 ⟨rfl, hb5⟩
  have HB5 := Lib.hid (Up.trans HB4.out hb5)
  clear hb5 x0 x1 x2
  go_wp2
  go_ret
  exact ⟨rfl, HB5.out⟩
end Go.Proofs.Ytoplkglnjgllnaa
