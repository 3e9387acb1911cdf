/-
  Package blob: its small functions.
-/
import Derived.Test.YtopdogadednclaaRefA
namespace Go.Proofs.Ytopdogadednclaa
open Go.RowKit
set_option linter.unusedVariables false

theorem from_any (n : Int) (w : World) (h0 : -9223372036854775808 ≤ n) (h1 : n ≤ 9223372036854775807) :
    Calls Try.prog 11 #[.int .i64 n] w fun e w' => ∃ k : Nat, Hid ((k : Int) = up0 n) ∧ k ≤ 9223372036854775807 ∧ e = .returned (.int .i64 k) ∧ w = w' := by
  have h := up0_nonneg n
  have hk : ((up0 n).toNat : Int) = up0 n := by omega
  by_cases hn : n < 0
  · have he : up0 n = -(n + 1) := by unfold up0; rw [if_pos hn]
    rw [he] at hk
    have HK := Lib.hid hk
    have HE := Lib.hid he
    clear hk he h
    go_enter Try.func11, Try.ntmps11
    go_wp2
    go_ret
    exact ⟨_, by rw [HE.out]; exact HK, by omega, ret_int HK.out.symm, rfl⟩
  · have he : up0 n = n := by unfold up0; rw [if_neg hn]
    rw [he] at hk
    have HK := Lib.hid hk
    have HE := Lib.hid he
    clear hk he h
    go_enter Try.func11, Try.ntmps11
    go_wp2
    go_ret
    exact ⟨_, by rw [HE.out]; exact HK, by omega, ret_int HK.out.symm, rfl⟩

/-- Would the last byte not stand within a file's most? -/
def big (off n : Nat) : Bool := decide (0 < n ∧ 2048 < off + n)

theorem tooBig_any (off n : Nat) (w : World) (h0 : off ≤ 9223372036854775807) (h1 : n ≤ 9223372036854775807) :
    Calls Try.prog 23 #[.int .i64 off, .int .i64 n] w fun e w' => e = .returned (.bool (big off n)) ∧ w = w' := by
  have hb : big off n = decide (0 < n ∧ 2048 < off + n) := rfl
  generalize big off n = b at hb
  by_cases c1 : 0 < n
  · by_cases c2 : 2048 < n
    · have e : b = true := by rw [hb]; simp; omega
      subst e; clear hb
      go_enter Try.func23, Try.ntmps23
      go_wp2
      go_ret
      exact ⟨rfl, rfl⟩
    · by_cases c3 : 2048 < off + n
      · have e : b = true := by rw [hb]; simp; omega
        have c3' : (2048 - (n : Int)) < off := by omega
        have d2 : decide ((2048 : Int) < n) = false := by simp; omega
        subst e; clear hb
        go_enter Try.func23, Try.ntmps23
        go_wp2
        go_ret
        exact ⟨rfl, rfl⟩
      · have e : b = false := by rw [hb]; simp; omega
        have c3' : ¬ (2048 - (n : Int)) < off := by omega
        have d2 : decide ((2048 : Int) < n) = false := by simp; omega
        subst e; clear hb
        go_enter Try.func23, Try.ntmps23
        go_wp2
        go_ret
        exact ⟨rfl, rfl⟩
  · have e : b = false := by rw [hb]; simp; omega
    subst e; clear hb
    go_enter Try.func23, Try.ntmps23
    go_wp2
    go_ret
    exact ⟨rfl, rfl⟩

theorem refTooBig_any (off n : Nat) (w : World) (h0 : off ≤ 9223372036854775807) (h1 : n ≤ 9223372036854775807) :
    Calls Try.prog 25 #[.int .i64 off, .int .i64 n] w fun e w' => e = .returned (.bool (big off n)) ∧ w = w' := by
  have hb : big off n = decide (0 < n ∧ 2048 < off + n) := rfl
  generalize big off n = b at hb
  by_cases c1 : 0 < n
  · have d1 : ((n : Int) == 0) = false := beq_eq_false_iff_ne.2 (by omega)
    by_cases c2 : 2047 < off
    · have e : b = true := by rw [hb]; simp; omega
      subst e; clear hb
      go_enter Try.func25, Try.ntmps25
      go_wp2
      go_ret
      exact ⟨rfl, rfl⟩
    · by_cases c3 : 2048 < n
      · have e : b = true := by rw [hb]; simp; omega
        subst e; clear hb
        go_enter Try.func25, Try.ntmps25
        go_wp2
        go_ret
        exact ⟨rfl, rfl⟩
      · by_cases c4 : 2048 < off + n
        · have e : b = true := by rw [hb]; simp; omega
          have c4' : (2048 : Int) < off + n := by omega
          subst e; clear hb
          go_enter Try.func25, Try.ntmps25
          go_wp2
          go_ret
          exact ⟨rfl, rfl⟩
        · have e : b = false := by rw [hb]; simp; omega
          have c4' : ¬ (2048 : Int) < off + n := by omega
          subst e; clear hb
          go_enter Try.func25, Try.ntmps25
          go_wp2
          go_ret
          exact ⟨rfl, rfl⟩
  · have e : b = false := by rw [hb]; simp; omega
    have d1 : ((n : Int) == 0) = true := beq_iff_eq.2 (by omega)
    subst e; clear hb
    go_enter Try.func25, Try.ntmps25
    go_wp2
    go_ret
    exact ⟨rfl, rfl⟩
end Go.Proofs.Ytopdogadednclaa
