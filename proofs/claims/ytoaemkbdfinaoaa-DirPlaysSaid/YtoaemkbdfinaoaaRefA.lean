/-
  The references' small helpers: Around, Few.
-/
import Derived.Test.YtoaemkbdfinaoaaBytes
namespace Go.Proofs.Ytoaemkbdfinaoaa
open Go.RowKit
set_option linter.unusedVariables false

theorem ret_int {k : IntKind} {a b : Int} (h : a = b) : Ending.returned (.int k a) = .returned (.int k b) := by rw [h]

/-- n, or its distance from -1. -/
def up0 (n : Int) : Int := if n < 0 then -(n + 1) else n
theorem up0_nonneg (n : Int) : 0 ≤ up0 n := by unfold up0; split <;> omega

theorem around_any (n : Int) (m : Nat) (w : World) (h0 : -9223372036854775808 ≤ n) (h1 : n ≤ 9223372036854775807) (hm : 1 ≤ m) (hm2 : m ≤ 9223372036854775807) :
    Calls Try.prog 12 #[.int .i64 n, .int .i64 m] w fun e w' => ∃ k : Nat, Hid ((k : Int) = up0 n % m) ∧ k < m ∧ e = .returned (.int .i64 k) ∧ w = w' := by
  have hmod : ∀ x : Int, 0 ≤ x → ∃ k : Nat, (k : Int) = x % m ∧ k < m := fun x hx => by
    refine ⟨(x % m).toNat, ?_, ?_⟩
    · have := Int.emod_nonneg x (show (m : Int) ≠ 0 by omega); omega
    · have := Int.emod_lt_of_pos x (show (0 : Int) < m by omega); have := Int.emod_nonneg x (show (m : Int) ≠ 0 by omega); omega
  by_cases hn : n < 0
  · obtain ⟨k, hk1, hk2⟩ := hmod (-(n + 1)) (by omega)
    have HK := Lib.hid hk1
    clear hk1 hmod
    go_enter Try.func12, Try.ntmps12
    go_wp2
    go_ret
    refine ⟨k, ?_, hk2, ret_int ?_, rfl⟩
    · show (k : Int) = _
      rw [HK.out]; unfold up0; rw [if_pos hn]
    · rw [HK.out, ← Int.neg_tmod, Int.tmod_eq_emod_of_nonneg (by omega)]
  · obtain ⟨k, hk1, hk2⟩ := hmod n (by omega)
    have HK := Lib.hid hk1
    clear hk1 hmod
    go_enter Try.func12, Try.ntmps12
    go_wp2
    go_ret
    refine ⟨k, ?_, hk2, ret_int ?_, rfl⟩
    · show (k : Int) = _
      rw [HK.out]; unfold up0; rw [if_neg (by omega)]
    · rw [HK.out]
end Go.Proofs.Ytoaemkbdfinaoaa
