/-
  Layer 2: the numbers' functions, texts, data, messages; the reference's.
-/
import Derived.Test.YtoplkglnjgllnaaLittleA
import Derived.Test.YtoplkglnjgllnaaFew
import Derived.Deep.RegionWith
namespace Go.Proofs.Ytoplkglnjgllnaa
open Go.RowKit
set_option linter.unusedVariables false

theorem u8_any (A : Option Addr) (n c : Nat) (l : List UInt8) (x : Nat) (w : World) (h : RdB w w.heap.size A n l) (hn : n ≤ c) (hn2 : n ≤ 1048576) (hx : x ≤ 255) :
    Calls Try.prog 56 #[.slice A n c, .int .u8 x] w (LayPost w (l ++ le 1 x)) := by
  go_enter Try.func56, Try.ntmps56
  go_wp2_with fail
  refine (lay8_any A n c l x 1 _ h hn hn2 hx (by omega) (by omega)).mono ?_
  rintro e w1 ⟨A1, n1, c1, l1, hl1, rfl, hown1, hb1⟩
  go_wp2
  go_ret
  exact ⟨A1, n1, c1, l1, hl1, rfl, hown1, hb1⟩
theorem u16_any (A : Option Addr) (n c : Nat) (l : List UInt8) (x : Nat) (w : World) (h : RdB w w.heap.size A n l) (hn : n ≤ c) (hn2 : n ≤ 1048576) (hx : x ≤ 65535) :
    Calls Try.prog 55 #[.slice A n c, .int .u16 x] w (LayPost w (l ++ le 2 x)) := by
  go_enter Try.func55, Try.ntmps55
  go_wp2_with fail
  refine (lay16_any A n c l x 2 _ h hn hn2 hx (by omega) (by omega)).mono ?_
  rintro e w1 ⟨A1, n1, c1, l1, hl1, rfl, hown1, hb1⟩
  go_wp2
  go_ret
  exact ⟨A1, n1, c1, l1, hl1, rfl, hown1, hb1⟩
theorem u32_any (A : Option Addr) (n c : Nat) (l : List UInt8) (x : Nat) (w : World) (h : RdB w w.heap.size A n l) (hn : n ≤ c) (hn2 : n ≤ 1048576) (hx : x ≤ 4294967295) :
    Calls Try.prog 54 #[.slice A n c, .int .u32 x] w (LayPost w (l ++ le 4 x)) := by
  go_enter Try.func54, Try.ntmps54
  go_wp2_with fail
  refine (lay32_any A n c l x 4 _ h hn hn2 hx (by omega) (by omega)).mono ?_
  rintro e w1 ⟨A1, n1, c1, l1, hl1, rfl, hown1, hb1⟩
  go_wp2
  go_ret
  exact ⟨A1, n1, c1, l1, hl1, rfl, hown1, hb1⟩
theorem u64_any (A : Option Addr) (n c : Nat) (l : List UInt8) (x : Nat) (w : World) (h : RdB w w.heap.size A n l) (hn : n ≤ c) (hn2 : n ≤ 1048576) (hx : x ≤ 18446744073709551615) :
    Calls Try.prog 89 #[.slice A n c, .int .u64 x] w (LayPost w (l ++ le 8 x)) := by
  go_enter Try.func89, Try.ntmps89
  go_wp2_with fail
  refine (lay64_any A n c l x 8 _ h hn hn2 hx (by omega) (by omega)).mono ?_
  rintro e w1 ⟨A1, n1, c1, l1, hl1, rfl, hown1, hb1⟩
  go_wp2
  go_ret
  exact ⟨A1, n1, c1, l1, hl1, rfl, hown1, hb1⟩

theorem text_any (A : Option Addr) (n c : Nat) (l s : List UInt8) (w : World) (h : RdB w w.heap.size A n l) (hn : n ≤ c) (hn2 : n ≤ 1048576) (hs : s.length ≤ 65535) :
    Calls Try.prog 88 #[.slice A n c, .string (st s)] w (LayPost w (l ++ le 2 s.length ++ s)) := by
  go_enter Try.func88, Try.ntmps88
  go_wp2_with fail
  refine (u16_any A n c l s.length _ h hn hn2 hs).mono ?_
  rintro e w1 ⟨A1, n1, c1, l1, hl1, rfl, hown1, hb1⟩
  have hl := hown1.len
  have hn1 : n1 ≤ 1048586 := by rw [← hl, hl1.out, List.length_append, le_length, h.len]; omega
  have HS := Lib.hid hb1.size
  clear hl
  go_wp2_with (at_builtin; go_must (refine wpList_appendB bytesElem rfl (.tmp 9) (.tmp 10) 9 rfl w.heap.size A1 n1 c1 l1 rfl hown1 _ rfl s.length s (Src.str _ _ Try.underlying9 s) (by omega) HS.out ?_); intro A2 n2 c2 l2 w2 hl2 hn2 hown2 hb2 hg2)
  go_ret
  exact ⟨A2, n2, c2, l2, by rw [hl2.out, hl1.out]; rfl, rfl, hown2, hb1.trans hb2⟩

theorem data_any (A : Option Addr) (n c : Nat) (l : List UInt8) (A' : Option Addr) (n' c' : Nat) (s : List UInt8) (w : World) (h : RdB w w.heap.size A n l) (hn : n ≤ c) (hn2 : n ≤ 1048576) (h' : RdB w w.heap.size A' n' s) (hs : n' ≤ 1048576) :
    Calls Try.prog 80 #[.slice A n c, .slice A' n' c'] w (LayPost w (l ++ le 4 n' ++ s)) := by
  go_enter Try.func80, Try.ntmps80
  go_wp2_with fail
  refine (u32_any A n c l n' _ h hn hn2 (by omega)).mono ?_
  rintro e w1 ⟨A1, n1, c1, l1, hl1, rfl, hown1, hb1⟩
  have hl := hown1.len
  have hn1 : n1 ≤ 1048586 := by rw [← hl, hl1.out, List.length_append, le_length, h.len]; omega
  have HS := Lib.hid hb1.size
  have H' := Lib.hid ((h'.below hb1).src (P := Try.prog) (c := c') 25 5 Try.underlying25)
  clear hl
  go_wp2_with (at_builtin; go_must (refine wpList_appendB bytesElem rfl (.tmp 9) (.tmp 10) 25 rfl w.heap.size A1 n1 c1 l1 rfl hown1 _ rfl n' s H'.out (by omega) HS.out ?_); intro A2 n2 c2 l2 w2 hl2 hn2 hown2 hb2 hg2)
  go_ret
  exact ⟨A2, n2, c2, l2, by rw [hl2.out, hl1.out]; rfl, rfl, hown2, hb1.trans hb2⟩

theorem pack_any (kind tag : Nat) (A : Option Addr) (n c : Nat) (l : List UInt8) (w : World) (h : RdB w w.heap.size A n l) (hn : n ≤ 1048576) (hk : kind ≤ 255) (ht : tag ≤ 65535) :
    Calls Try.prog 39 #[.int .u8 kind, .int .u16 tag, .slice A n c] w (LayPost w (packL kind tag l)) := by
  go_enter Try.func39, Try.ntmps39
  go_wp2_with fail
  refine (u32_any none 0 0 [] (7 + n) _ RdB.nil (by omega) (by omega) (by omega)).mono ?_
  rintro e w1 ⟨A1, n1, c1, l1, hl1, rfl, hown1, hb1⟩
  have hn1 : n1 = 4 := by rw [← hown1.len, hl1.out]; simp [le_length]
  subst hn1
  have hc1 := hown1.cap
  unfold maxLen at hc1
  go_wp2_with fail
  refine (u8_any A1 4 c1 l1 kind _ hown1.rd (by omega) (by omega) hk).mono ?_
  rintro e w2 ⟨A2, n2, c2, l2, hl2, rfl, hown2, hb2⟩
  have hn2 : n2 = 5 := by rw [← hown2.len, hl2.out, List.length_append, le_length, hown1.len]
  subst hn2
  have hc2 := hown2.cap
  unfold maxLen at hc2
  go_wp2_with fail
  refine (u16_any A2 5 c2 l2 tag _ hown2.rd (by omega) (by omega) ht).mono ?_
  rintro e w3 ⟨A3, n3, c3, l3, hl3, rfl, hown3, hb3⟩
  have hn3 : n3 = 7 := by rw [← hown3.len, hl3.out, List.length_append, le_length, hown2.len]
  subst hn3
  have hb13 := (hb1.trans (hb2.mono hb1.size)).trans (hb3.mono (Nat.le_trans hb1.size hb2.size))
  have hown3' := hown3.lower (Nat.le_trans hb1.size hb2.size)
  have HS := Lib.hid hb13.size
  have H' := Lib.hid ((h.below hb13).src (P := Try.prog) (c := c) 25 5 Try.underlying25)
  go_wp2_with (at_builtin; go_must (refine wpList_appendB bytesElem rfl (.tmp 17) (.tmp 18) 25 rfl w.heap.size A3 7 c3 l3 rfl hown3' _ rfl n l H'.out (by omega) HS.out ?_); intro A4 n4 c4 l4 w4 hl4 hn4 hown4 hb4 hg4)
  go_ret
  refine ⟨A4, n4, c4, l4, ?_, rfl, hown4, hb13.trans hb4⟩
  show _ = _
  rw [hl4.out, hl3.out, hl2.out, hl1.out, packL, h.len]
  simp [List.append_assoc]
end Go.Proofs.Ytoplkglnjgllnaa
