/-
  Package blob: stretch.
-/
import Derived.Test.YtopdogadednclaaBlobA
import Derived.Test.YtopdogadednclaaBytesB
namespace Go.Proofs.Ytopdogadednclaa
open Go.RowKit
set_option linter.unusedVariables false

def GrowRel (B : Nat) (w : World) (l1 : List UInt8) (most : Nat) (v i : Value) (wr : World) : Prop :=
  ∃ (j n' c' : Nat) (A' : Option Addr) (l' : List UInt8), j ≤ most ∧ i = .int .i64 j ∧ v = .slice A' n' c' ∧ l' = l1 ++ List.replicate j 0 ∧ OwB wr B A' n' c' l' ∧ Below B w wr

theorem stretch_mid (l l1 l2 : List UInt8) (k : Nat) (hk : k ≤ l.length) (h1 : l1 = List.replicate k 0) (h2 : l2 = l1.take 0 ++ (l.take k ++ l1.drop (0 + (l.take k).length))) : l2 = l.take k := by
  subst h1
  rw [h2, List.length_take, Nat.min_eq_left hk]
  simp

theorem stretch_any (A : Option Addr) (n c : Nat) (l : List UInt8) (size : Nat) (w : World) (h : RdB w w.heap.size A n l) (hn : n ≤ 1048576) (hs : size ≤ 1048576) :
    Calls Try.prog 24 #[.slice A n c, .int .i64 size] w fun e w' => ∃ A' n' c' l', Hid (l' = l.take size ++ List.replicate (size - n) 0) ∧ e = .returned (.slice A' n' c') ∧ OwB w' w.heap.size A' n' c' l' ∧ Below w.heap.size w w' := by
  obtain ⟨k, hk1, hk2⟩ : ∃ k : Nat, k ≤ size ∧ ((n ≤ size ∧ k = n) ∨ (size ≤ n ∧ k = size)) := by
    rcases Nat.le_total n size with h | h
    · exact ⟨n, h, .inl ⟨h, rfl⟩⟩
    · exact ⟨size, Nat.le_refl _, .inr ⟨h, rfl⟩⟩
  have hmin : (if size < n then (size : Int) else n) = k := by split <;> omega
  go_enter Try.func24, Try.ntmps24
  go_wp2_with (first
    | (at_make; go_must (refine wpList_makeB bytesElem rfl (.tmp 11) (.tmp 12) rfl .i64 .i64 k size rfl rfl hk1 (by omega) w.heap.size (Nat.le_refl _) ?_); intro g l1 w1 hl1 hown1 hb1)
    | (with_reducible refine wpList_copy_sliceB bytesElem rfl (.tmp 14) (.tmp 15) 22 rfl w.heap.size g k size 0 k size l1 hown1 rfl (by omega) A n c w.heap.size rfl l (h.below hb1) ?_; intro l2 w2 hl2 hown2 hb2 hg2))
  have hm := stretch_mid l l1 l2 k (by have := h.len; omega) hl1.out hl2.out
  have HM := Lib.hid hm
  clear hm hl1 hl2
  go_loopw [6, 20] (fun v i wr => GrowRel w.heap.size w l2 (size - k) v i wr) (fun _ i _ => (size - k) - (intOf i).toNat)
  case atStart => exact ⟨0, k, size, _, l2, Nat.zero_le _, rfl, rfl, by simp, hown2, hb1.trans hb2⟩
  case round =>
    obtain ⟨j, n', c', A', l', hj, rfl, rfl, hl', hown', hbw⟩ := hrel
    have HL := Lib.hid hl'
    have hln := hown'.len
    have hlb : n' ≤ 2097152 := by
      rw [← hln, hl', HM.out]; simp; omega
    clear hl' hln
    have hsz := hbw.size
    by_cases hlt : (j : Int) < (size : Int) - k
    · go_wp2_with (first
        | (at_builtin; go_must (refine wpList_appendB bytesElem rfl (.tmp 22) (.tmp 23) 22 rfl w.heap.size A' n' c' l' rfl (hown'.alloc _) _ rfl 1 [0] (Src.oneByte _ _ _ Try.underlying22 0 _) (by omega) (by simp; omega) ?_); intro A3 n3 c3 l3 w3 hl3 hn3 hown3 hb3 hg3))
      go_roundw
      case rel => exact ⟨j + 1, n3, c3, A3, l3, by omega, by go_num, rfl, by rw [hl3.out, HL.out, List.replicate_succ', List.append_assoc], hown3, (hbw.alloc hsz _).trans hb3⟩
      case measure => simp [intOf]; omega
    · go_wp2
      go_ret
      refine ⟨A', n', c', l', ?_, rfl, hown', hbw⟩
      show _ = _
      rw [HL.out, HM.out]
      have e : j = size - k := by omega
      subst e
      have hln := h.len
      rcases hk2 with ⟨h1, h2⟩ | ⟨h1, h2⟩
      · rw [List.take_of_length_le (show l.length ≤ k by omega), List.take_of_length_le (show l.length ≤ size by omega), h2]
      · rw [h2, Nat.sub_self, Nat.sub_eq_zero_of_le h1]
end Go.Proofs.Ytopdogadednclaa
