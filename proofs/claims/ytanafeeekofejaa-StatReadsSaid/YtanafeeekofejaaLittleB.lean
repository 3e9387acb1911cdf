/-
  Layer 2: the numbers' functions, texts, data, messages; the reference's.
-/
import Derived.Test.YtanafeeekofejaaLittleA
import Derived.Test.YtanafeeekofejaaFew
import Derived.Deep.RegionWith
namespace Go.Proofs.Ytanafeeekofejaa
open Go.RowKit
set_option linter.unusedVariables false

theorem u16_any (A : Option Addr) (n c : Nat) (l : List UInt8) (x : Nat) (w : World) (h : RdB w w.heap.size A n l) (hn : n ≤ c) (hn2 : n ≤ 1048576) (hx : x ≤ 65535) :
    Calls Try.prog 56 #[.slice A n c, .int .u16 x] w (LayPost w (l ++ le 2 x)) := by
  go_enter Try.func56, Try.ntmps56
  go_wp2_with fail
  refine (lay16_any A n c l x 2 _ h hn hn2 hx (by omega) (by omega)).mono ?_
  rintro e w1 ⟨A1, n1, c1, l1, hl1, rfl, hown1, hb1⟩
  go_wp2
  go_ret
  exact ⟨A1, n1, c1, l1, hl1, rfl, hown1, hb1⟩
theorem u32_any (A : Option Addr) (n c : Nat) (l : List UInt8) (x : Nat) (w : World) (h : RdB w w.heap.size A n l) (hn : n ≤ c) (hn2 : n ≤ 1048576) (hx : x ≤ 4294967295) :
    Calls Try.prog 50 #[.slice A n c, .int .u32 x] w (LayPost w (l ++ le 4 x)) := by
  go_enter Try.func50, Try.ntmps50
  go_wp2_with fail
  refine (lay32_any A n c l x 4 _ h hn hn2 hx (by omega) (by omega)).mono ?_
  rintro e w1 ⟨A1, n1, c1, l1, hl1, rfl, hown1, hb1⟩
  go_wp2
  go_ret
  exact ⟨A1, n1, c1, l1, hl1, rfl, hown1, hb1⟩
theorem text_any (A : Option Addr) (n c : Nat) (l s : List UInt8) (w : World) (h : RdB w w.heap.size A n l) (hn : n ≤ c) (hn2 : n ≤ 1048576) (hs : s.length ≤ 65535) :
    Calls Try.prog 49 #[.slice A n c, .string (st s)] w (LayPost w (l ++ le 2 s.length ++ s)) := by
  go_enter Try.func49, Try.ntmps49
  go_wp2_with fail
  refine (u16_any A n c l s.length _ h hn hn2 hs).mono ?_
  rintro e w1 ⟨A1, n1, c1, l1, hl1, rfl, hown1, hb1⟩
  have hl := hown1.len
  have hn1 : n1 ≤ 1048586 := by rw [← hl, hl1.out, List.length_append, le_length, h.len]; omega
  have HS := Lib.hid hb1.size
  clear hl
  go_wp2_with (at_builtin; go_must (refine wpList_appendB bytesElem rfl (.tmp 9) (.tmp 10) 9 rfl w.heap.size A1 n1 c1 l1 rfl hown1 _ rfl s.length s (Src.str _ _ Try.underlying9 s) (by omega) HS.out ?_); intro A2 n2 c2 l2 w2 hl2 hn2 hown2 hb2 hg2)
  go_ret
  exact ⟨A2, n2, c2, l2, by rw [hl2.out, hl1.out]; rfl, rfl, hown2, hb1.trans hb2⟩

end Go.Proofs.Ytanafeeekofejaa
