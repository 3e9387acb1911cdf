/-
  Layer 2: the reference's numbers, texts, data, messages.
-/
import Derived.Test.YthfepdgamhidgaaLittleB
namespace Go.Proofs.Ythfepdgamhidgaa
open Go.RowKit
set_option linter.unusedVariables false

def NumRel (B : Nat) (w : World) (x size : Nat) (y v i : Value) (wr : World) : Prop :=
  ∃ (j n' c' z : Nat) (A' : Option Addr) (l' : List UInt8), j ≤ size ∧ i = .int .i64 j ∧ y = .int .u64 z ∧ z = x / 256 ^ j ∧ v = .slice A' n' c' ∧ l' = le j x ∧ OwB wr B A' n' c' l' ∧ Below B w wr

theorem byte_mod (z : Nat) : ((z : Int) % 256) = ((UInt8.ofNat z).toNat : Int) := by simp

theorem number_any (x size : Nat) (w : World) (hx : x ≤ 18446744073709551615) (hs2 : size ≤ 8) :
    Calls Try.prog 15 #[.int .u64 x, .int .i64 size] w (LayPost w (le size x)) := by
  go_enter Try.func15, Try.ntmps15
  go_wp2
  go_loopw [0, 5, 6] (fun y v i wr => NumRel w.heap.size w x size y v i wr) (fun _ _ i _ => size - (intOf i).toNat)
  case atStart => exact ⟨0, 0, 0, x, none, [], by omega, rfl, rfl, by simp, rfl, rfl, OwB.nil _ _, Below.refl _ _⟩
  case round =>
    obtain ⟨j, n', c', z, A', l', hj, rfl, rfl, hz, rfl, hl', hown', hbw⟩ := hrel
    have hln : n' ≤ 8 := by rw [← hown'.len, hl', le_length]; omega
    have hzx : z ≤ 18446744073709551615 := by rw [hz]; exact Nat.le_trans (Nat.div_le_self _ _) hx
    have HL := Lib.hid hl'
    have HZ := Lib.hid hz
    have hsz := hbw.size
    have hby := Lib.hid (byte_mod z)
    clear hl' hz
    by_cases hlt : j < size
    · go_wp2_with (at_builtin; go_must (refine wpList_appendB bytesElem rfl (.tmp 12) (.tmp 16) 22 rfl w.heap.size A' n' c' l' rfl (hown'.alloc _) _ rfl 1 [UInt8.ofNat z] (Src.oneByteV _ _ _ Try.underlying22 _ _ hby.out _) (by omega) (by simp; omega) ?_); intro A3 n3 c3 l3 w3 hl3 hn3 hown3 hb3 hg3)
      go_roundw
      case rel => exact ⟨j + 1, n3, c3, z / 256, A3, l3, by omega, by go_num, by go_num, by rw [HZ.out, Nat.div_div_eq_div_mul, Nat.pow_succ], rfl, by rw [hl3.out, HL.out, le_succ, HZ.out], hown3, (hbw.alloc hsz _).trans hb3⟩
      case measure => simp [intOf]; omega
    · obtain rfl : j = size := by omega
      go_wp2
      go_ret
      exact ⟨A', n', c', l', HL, rfl, hown', hbw⟩

theorem refText_any (s : List UInt8) (w : World) (hs : s.length ≤ 65535) :
    Calls Try.prog 16 #[.string (st s)] w (LayPost w (le 2 s.length ++ s)) := by
  go_enter Try.func16, Try.ntmps16
  go_wp2_with fail
  refine (number_any s.length 2 _ (by omega) (by omega)).mono ?_
  rintro e w1 ⟨A1, n1, c1, l1, hl1, rfl, hown1, hb1⟩
  have hn1 : n1 = 2 := by rw [← hown1.len, hl1.out, le_length]
  subst hn1
  have HS := Lib.hid hb1.size
  go_wp2_with (first
    | (at_builtin; go_must (refine wpList_appendB bytesElem rfl (.tmp 6) (.tmp 8) 22 rfl w.heap.size A1 2 c1 l1 rfl (hown1.up hbs) _ rfl nn s (hows.rd.src (P := Try.prog) (c := cc) 22 5 Try.underlying22) (by have := hnn.out; omega) (Nat.le_trans HS.out hbs.size) ?_); intro A2 n2 c2 l2 w2 hl2 hn2 hown2 hb2 hg2)
    | (with_reducible refine wpList_stringB bytesElem Try.underlying5 rfl (.tmp 7) 9 Try.underlying9 rfl s rfl (by omega) w.heap.size HS.out ?_; intro gg nn cc ws hnn hows hbs))
  go_ret
  exact ⟨A2, n2, c2, l2, by rw [hl2.out, hl1.out]; rfl, rfl, hown2, (hb1.trans (hbs.mono hb1.size)).trans hb2⟩

theorem refData_any (A : Option Addr) (n c : Nat) (s : List UInt8) (w : World) (h : RdB w w.heap.size A n s) (hs : n ≤ 1048576) :
    Calls Try.prog 17 #[.slice A n c] w (LayPost w (le 4 n ++ s)) := by
  go_enter Try.func17, Try.ntmps17
  go_wp2_with fail
  refine (number_any n 4 _ (by omega) (by omega)).mono ?_
  rintro e w1 ⟨A1, n1, c1, l1, hl1, rfl, hown1, hb1⟩
  have hn1 : n1 = 4 := by rw [← hown1.len, hl1.out, le_length]
  subst hn1
  have HS := Lib.hid hb1.size
  have H' := Lib.hid ((h.below hb1).src (P := Try.prog) (c := c) 22 5 Try.underlying22)
  go_wp2_with (at_builtin; go_must (refine wpList_appendB bytesElem rfl (.tmp 6) (.tmp 7) 22 rfl w.heap.size A1 4 c1 l1 rfl hown1 _ rfl n s H'.out (by omega) HS.out ?_); intro A2 n2 c2 l2 w2 hl2 hn2 hown2 hb2 hg2)
  go_ret
  exact ⟨A2, n2, c2, l2, by rw [hl2.out, hl1.out]; rfl, rfl, hown2, hb1.trans hb2⟩

theorem refPack_any (kind tag : Nat) (A : Option Addr) (n c : Nat) (l : List UInt8) (w : World) (h : RdB w w.heap.size A n l) (hn : n ≤ 1048576) (hk : kind ≤ 255) (ht : tag ≤ 65535) :
    Calls Try.prog 19 #[.int .i64 kind, .int .i64 tag, .slice A n c] w (LayPost w (packL kind tag l)) := by
  go_enter Try.func19, Try.ntmps19
  go_wp2_with fail
  refine (number_any (7 + n) 4 _ (by omega) (by omega)).mono ?_
  rintro e w1 ⟨A1, n1, c1, l1, hl1, rfl, hown1, hb1⟩
  have hn1 : n1 = 4 := by rw [← hown1.len, hl1.out, le_length]
  subst hn1
  have HS := Lib.hid hb1.size
  have hk2 : (kind : Int) = ((UInt8.ofNat kind).toNat : Int) := by simp; omega
  have hby := Lib.hid hk2
  clear hk2
  go_wp2_with (at_builtin; go_must (refine wpList_appendB bytesElem rfl (.tmp 13) (.tmp 16) 22 rfl w.heap.size A1 4 c1 l1 rfl (hown1.alloc _) _ rfl 1 [UInt8.ofNat kind] (Src.oneByteV _ _ _ Try.underlying22 _ _ hby.out _) (by omega) (by have := HS.out; simp; omega) ?_); intro A2 n2 c2 l2 w2 hl2 hn2 hown2 hb2 hg2)
  have hn2 : n2 = 5 := by rw [← hown2.len, hl2.out, List.length_append, hown1.len]; rfl
  have hb12 : Below w.heap.size w w2 := (hb1.alloc HS.out _).trans hb2
  have HS2 := Lib.hid hb12.size
  subst hn2
  refine (number_any tag 2 _ (by omega) (by omega)).mono ?_
  rintro e w3 ⟨A3, n3, c3, l3, hl3, rfl, hown3, hb3⟩
  have hn3 : n3 = 2 := by rw [← hown3.len, hl3.out, le_length]
  subst hn3
  have HS3 := Lib.hid (Nat.le_trans hb12.size hb3.size)
  have H3 := Lib.hid (hown3.rd.src (P := Try.prog) (c := c3) 22 5 Try.underlying22)
  have hown2' := hown2.up hb3
  go_wp2_with (at_builtin; first
    | (refine wpList_appendB bytesElem rfl (.tmp 18) (.tmp 21) 22 rfl w.heap.size A2 5 c2 l2 rfl hown2' _ rfl 2 l3 H3.out (by omega) HS3.out ?_; intro A4 n4 c4 l4 w4 hl4 hn4 hown4 hb4 hg4)
    | (have hn7 : n4 = 7 := hn4.out; subst hn7; have hb14 := Lib.hid ((hb12.trans (hb3.mono hb12.size)).trans hb4); have HS4 := Lib.hid hb14.out.size; refine wpList_appendB bytesElem rfl (.tmp 23) (.tmp 24) 22 rfl w.heap.size A4 7 c4 l4 rfl hown4 _ rfl n l ((h.below hb14.out).src (P := Try.prog) (c := c) 22 5 Try.underlying22) (by omega) HS4.out ?_; intro A5 n5 c5 l5 w5 hl5 hn5 hown5 hb5 hg5))
  go_ret
  refine ⟨A5, n5, c5, l5, ?_, rfl, hown5, hb14.out.trans hb5⟩
  show _ = _
  rw [hl5.out, hl4.out, hl3.out, hl2.out, hl1.out, packL, h.len]
  simp [le]

theorem lives_any (w : World) : Calls Try.prog 20 #[] w fun e w' => e = .returned (.bool true) ∧ Below w.heap.size w w' := by
  go_enter Try.func20, Try.ntmps20
  go_wp2_with fail
  refine (pack_any 100 65535 none 0 0 [] _ RdB.nil (by omega) (by omega) (by omega)).mono ?_
  rintro e w1 ⟨A1, n1, c1, l1, hl1, rfl, hown1, hb1⟩
  have e : l1 = [7, 0, 0, 0, 100, 255, 255] := by rw [hl1.out]; decide
  subst e
  have hcv := run_bytes_string (P := Try.prog) (c := c1) 22 9 5 Try.underlying22 Try.underlying5 Try.underlying9 hown1.rd
  go_wp2
  go_ret
  exact ⟨rfl, hb1⟩
end Go.Proofs.Ythfepdgamhidgaa
