/-
  The references' helper Few.
-/
import Derived.Test.YtoplkglnjgllnaaRefA
namespace Go.Proofs.Ytoplkglnjgllnaa
open Go.RowKit
set_option linter.unusedVariables false

theorem few_any (A : Option Addr) (n c : Nat) (l : List UInt8) (most : Nat) (w : World) (h : RdB w w.heap.size A n l) (hc : n ≤ c) (hc2 : c ≤ maxLen) (hm : most ≤ 65536) :
    Calls Try.prog 23 #[.slice A n c, .int .i64 most] w fun e w' => ∃ A' n' c' l', Hid (l' = l.take most) ∧ e = .returned (.slice A' n' c') ∧ OwB w' w.heap.size A' n' c' l' ∧ Below w.heap.size w w' := by
  unfold maxLen at hc2
  by_cases hl : n ≤ most
  · have H := Lib.hid (h.src (P := Try.prog) (c := c) 25 5 Try.underlying25)
    go_enter Try.func23, Try.ntmps23
    go_wp2_with (at_builtin; go_must (refine wpList_appendB bytesElem rfl (.tmp 6) (.tmp 12) 25 rfl w.heap.size none 0 0 [] rfl (OwB.nil _ _) _ rfl n l H.out (by omega) (Nat.le_refl _) ?_); intro A' n' c' l' w' hl' hn' hown hb hg)
    go_ret
    exact ⟨A', n', c', l', by rw [hl'.out]; exact (List.take_of_length_le (by have := h.len; simp; omega)).symm, rfl, hown, hb⟩
  · have H := Lib.hid ((h.first (k := most) (by omega)).src (P := Try.prog) (c := c) 25 5 Try.underlying25)
    generalize hq : l.take most = q at H
    have Hq := Lib.hid hq
    clear hq
    go_enter Try.func23, Try.ntmps23
    go_wp2_with (at_builtin; go_must (refine wpList_appendB bytesElem rfl (.tmp 6) (.tmp 12) 25 rfl w.heap.size none 0 0 [] rfl (OwB.nil _ _) _ rfl most q H.out (by omega) (Nat.le_refl _) ?_); intro A' n' c' l' w' hl' hn' hown hb hg)
    go_ret
    exact ⟨A', n', c', l', by rw [hl'.out]; rfl, rfl, hown, hb⟩
end Go.Proofs.Ytoplkglnjgllnaa
