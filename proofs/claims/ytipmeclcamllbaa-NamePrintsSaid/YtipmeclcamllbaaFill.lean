/-
  The references' helper Fill: so many bytes, made of any.
-/
import Derived.Test.YtipmeclcamllbaaRefA
namespace Go.Proofs.Ytipmeclcamllbaa
open Go.RowKit
set_option linter.unusedVariables false

def fillL (l : List UInt8) (m : Nat) : List UInt8 := (List.range m).map fun i => (l[i % l.length]?).getD 0
theorem fillL_succ (l : List UInt8) (m : Nat) : fillL l (m + 1) = fillL l m ++ [(l[m % l.length]?).getD 0] := by
  unfold fillL; rw [List.range_succ]; simp
theorem fillL_length (l : List UInt8) (m : Nat) : (fillL l m).length = m := by unfold fillL; simp

def FillRel (B : Nat) (w : World) (l : List UInt8) (m : Nat) (v i : Value) (wr : World) : Prop :=
  ∃ (k n' c' : Nat) (A' : Option Addr) (l' : List UInt8), k ≤ m ∧ i = .int .i64 k ∧ v = .slice A' n' c' ∧ l' = fillL l k ∧ OwB wr B A' n' c' l' ∧ Below B w wr

set_option maxHeartbeats 1000000 in
theorem fill_any (A : Option Addr) (n c : Nat) (l : List UInt8) (m : Nat) (w : World) (h : RdB w w.heap.size A n l) (hn : n ≤ 1048576) (hm : m ≤ 65536) :
    Calls Try.prog 11 #[.slice A n c, .int .i64 m] w fun e w' => ∃ A' n' c' l', Hid (l' = fillL l m) ∧ e = .returned (.slice A' n' c') ∧ OwB w' w.heap.size A' n' c' l' ∧ Below w.heap.size w w' := by
  go_enter Try.func11, Try.ntmps11
  go_wp2
  go_loopw [5, 6] (fun v i wr => FillRel w.heap.size w l m v i wr) (fun _ i _ => m - (intOf i).toNat)
  case atStart => exact ⟨0, 0, 0, none, [], Nat.zero_le _, rfl, rfl, rfl, OwB.nil _ _, Below.refl _ _⟩
  case round =>
    obtain ⟨k, n', c', A', l', hk, rfl, rfl, hl', hown', hbw⟩ := hrel
    have hlb : n' = k := by rw [← hown'.len, hl', fillL_length]
    subst hlb
    have HL := Lib.hid hl'
    clear hl'
    have hsz := hbw.size
    by_cases hlt : n' < m
    · by_cases h0 : 0 < n
      · obtain ⟨b, off, x, rfl, hb, hx, hcell⟩ := h.at_ (k := n' % n) (Nat.mod_lt _ h0)
        have hcr : wr.cell? ⟨b, off + n' % n, none⟩ = some (.int .u8 (x.toNat : Int)) := by rw [hbw.cell hb]; exact hcell
        have hs := fillL_succ l n'
        rw [h.len, hx] at hs
        have HS := Lib.hid hs
        have t1 : decide ((0 : Int) < n) = true := by simp; omega
        have t2 : decide (0 < n) = true := by simp; omega
        have hmod : n' % n < n := Nat.mod_lt _ h0
        clear hs hcell hx
        go_wp2_with (first
          | (at_builtin; go_must (refine wpList_appendB bytesElem rfl (.tmp 15) (.tmp 23) 26 rfl w.heap.size A' n' c' l' rfl (hown'.alloc _) _ rfl 1 [x] (Src.oneByte _ _ _ Try.underlying26 x _) (by omega) (by simp; omega) ?_); intro A3 n3 c3 l3 w3 hl3 hn3 hown3 hb3 hg3))
        go_roundw
        case rel => exact ⟨n' + 1, n3, c3, A3, l3, by omega, by go_num, rfl, by rw [hl3.out, HL.out, HS.out]; rfl, hown3, (hbw.alloc hsz _).trans hb3⟩
        case measure => simp [intOf]; omega
      · have hs := fillL_succ l n'
        have hl0 : l = [] := List.eq_nil_of_length_eq_zero (by rw [h.len]; omega)
        have hs2 : fillL l (n' + 1) = fillL l n' ++ [0] := by rw [hs, hl0]; rfl
        have HS := Lib.hid hs2
        have t1 : decide ((0 : Int) < n) = false := by simp; omega
        have t2 : decide (0 < n) = false := by simp; omega
        clear hs hs2 hl0
        go_wp2_with (first
          | (at_builtin; go_must (refine wpList_appendB bytesElem rfl (.tmp 25) (.tmp 26) 26 rfl w.heap.size A' n' c' l' rfl (hown'.alloc _) _ rfl 1 [0] (Src.oneByte _ _ _ Try.underlying26 0 _) (by omega) (by simp; omega) ?_); intro A3 n3 c3 l3 w3 hl3 hn3 hown3 hb3 hg3))
        go_roundw
        case rel => exact ⟨n' + 1, n3, c3, A3, l3, by omega, by go_num, rfl, by rw [hl3.out, HL.out, HS.out], hown3, (hbw.alloc hsz _).trans hb3⟩
        case measure => simp [intOf]; omega
    · obtain rfl : n' = m := by omega
      go_wp2
      go_ret
      exact ⟨A', n', c', l', HL, rfl, hown', hbw⟩
end Go.Proofs.Ytipmeclcamllbaa
