/-
  Layer 2: the reference's numbers, texts, data, messages.
-/
import Derived.Test.YtanafeeekofejaaLittleB
namespace Go.Proofs.Ytanafeeekofejaa
open Go.RowKit
set_option linter.unusedVariables false

def NumRel (B : Nat) (w : World) (x size : Nat) (y v i : Value) (wr : World) : Prop :=
  ∃ (j n' c' z : Nat) (A' : Option Addr) (l' : List UInt8), j ≤ size ∧ i = .int .i64 j ∧ y = .int .u64 z ∧ z = x / 256 ^ j ∧ v = .slice A' n' c' ∧ l' = le j x ∧ OwB wr B A' n' c' l' ∧ Below B w wr

theorem byte_mod (z : Nat) : ((z : Int) % 256) = ((UInt8.ofNat z).toNat : Int) := by simp

theorem number_any (x size : Nat) (w : World) (hx : x ≤ 18446744073709551615) (hs2 : size ≤ 8) :
    Calls Try.prog 39 #[.int .u64 x, .int .i64 size] w (LayPost w (le size x)) := by
  go_enter Try.func39, Try.ntmps39
  go_wp2
  go_loopw [0, 5, 6] (fun y v i wr => NumRel w.heap.size w x size y v i wr) (fun _ _ i _ => size - (intOf i).toNat)
  case atStart => exact ⟨0, 0, 0, x, none, [], by omega, rfl, rfl, by simp, rfl, rfl, OwB.nil _ _, Below.refl _ _⟩
  case round =>
    obtain ⟨j, n', c', z, A', l', hj, rfl, rfl, hz, rfl, hl', hown', hbw⟩ := hrel
    have hln : n' ≤ 8 := by rw [← hown'.len, hl', le_length]; omega
    have hzx : z ≤ 18446744073709551615 := by rw [hz]; exact Nat.le_trans (Nat.div_le_self _ _) hx
    have HL := Lib.hid hl'
    have HZ := Lib.hid hz
    have hsz := hbw.size
    have hby := Lib.hid (byte_mod z)
    clear hl' hz
    by_cases hlt : j < size
    · go_wp2_with (at_builtin; go_must (refine wpList_appendB bytesElem rfl (.tmp 12) (.tmp 16) 46 rfl w.heap.size A' n' c' l' rfl (hown'.alloc _) _ rfl 1 [UInt8.ofNat z] (Src.oneByteV _ _ _ Try.underlying46 _ _ hby.out _) (by omega) (by simp; omega) ?_); intro A3 n3 c3 l3 w3 hl3 hn3 hown3 hb3 hg3)
      go_roundw
      case rel => exact ⟨j + 1, n3, c3, z / 256, A3, l3, by omega, by go_num, by go_num, by rw [HZ.out, Nat.div_div_eq_div_mul, Nat.pow_succ], rfl, by rw [hl3.out, HL.out, le_succ, HZ.out], hown3, (hbw.alloc hsz _).trans hb3⟩
      case measure => simp [intOf]; omega
    · obtain rfl : j = size := by omega
      go_wp2
      go_ret
      exact ⟨A', n', c', l', HL, rfl, hown', hbw⟩

theorem refText_any (s : List UInt8) (w : World) (hs : s.length ≤ 65535) :
    Calls Try.prog 38 #[.string (st s)] w (LayPost w (le 2 s.length ++ s)) := by
  go_enter Try.func38, Try.ntmps38
  go_wp2_with fail
  refine (number_any s.length 2 _ (by omega) (by omega)).mono ?_
  rintro e w1 ⟨A1, n1, c1, l1, hl1, rfl, hown1, hb1⟩
  have hn1 : n1 = 2 := by rw [← hown1.len, hl1.out, le_length]
  subst hn1
  have HS := Lib.hid hb1.size
  go_wp2_with (first
    | (at_builtin; go_must (refine wpList_appendB bytesElem rfl (.tmp 6) (.tmp 8) 46 rfl w.heap.size A1 2 c1 l1 rfl (hown1.up hbs) _ rfl nn s (hows.rd.src (P := Try.prog) (c := cc) 46 5 Try.underlying46) (by have := hnn.out; omega) (Nat.le_trans HS.out hbs.size) ?_); intro A2 n2 c2 l2 w2 hl2 hn2 hown2 hb2 hg2)
    | (with_reducible refine wpList_stringB bytesElem Try.underlying5 rfl (.tmp 7) 9 Try.underlying9 rfl s rfl (by omega) w.heap.size HS.out ?_; intro gg nn cc ws hnn hows hbs))
  go_ret
  exact ⟨A2, n2, c2, l2, by rw [hl2.out, hl1.out]; rfl, rfl, hown2, (hb1.trans (hbs.mono hb1.size)).trans hb2⟩

end Go.Proofs.Ytanafeeekofejaa
