/-
  Layer 19: permissions, modes, an entry's bytes; the document's example.
-/
import Derived.Test.YtanafeeekofejaaStatP
import Derived.Test.YtanafeeekofejaaLittleB
import Derived.Test.YtanafeeekofejaaLawB
import Derived.Test.YtanafeeekofejaaBlk
namespace Go.Proofs.Ytanafeeekofejaa
open Go.RowKit
set_option linter.unusedVariables false

def permM (p : Int) : Int := if permOk p then (if p < 512 then p else p - 2147483648) else 0
def permD (p : Int) : Bool := permOk p && decide (2147483648 ≤ p)
def permE (p : Int) : Int := if permOk p then 0 else 19

theorem perm_any (p : Int) (w : World) (h0 : -9223372036854775808 ≤ p) (h1 : p ≤ 9223372036854775807) :
    Calls Try.prog 9 #[.int .i64 p] w fun e w' => e = .returned (.tuple #[.int .i64 (permM p), .bool (permD p), .int .i64 (permE p)]) ∧ w = w' := by
  generalize hM : permM p = M
  generalize hD : permD p = D
  generalize hE : permE p = E
  unfold permM at hM
  unfold permD at hD
  unfold permE at hE
  by_cases hn : p < 0
  · have hk : permOk p = false := by unfold permOk; simp; omega
    rw [hk] at hM hD hE
    simp at hM hD hE
    subst hM hD hE
    clear hk
    go_enter Try.func9, Try.ntmps9
    go_wp2
    go_ret3
    exact ⟨rfl, rfl⟩
  · obtain ⟨q, rfl⟩ : ∃ q : Nat, p = q := ⟨p.toNat, by omega⟩
    have hl := perm_left q (by omega)
    cases hk : permOk q with
    | false =>
      rw [hk] at hM hD hE hl
      simp at hM hD hE
      have hl' : (bits .andNot .i64 (q : Int) 2147484159 != 0) = true := by rw [hl]; rfl
      subst hM hD hE
      clear hk hl
      go_enter Try.func9, Try.ntmps9
      go_wp2
      go_ret3
      exact ⟨rfl, rfl⟩
    | true =>
      rw [hk] at hM hD hE hl
      have hl' : (bits .andNot .i64 (q : Int) 2147484159 != 0) = false := by rw [hl]; rfl
      have a1 : bits .and .i64 (q : Int) 511 = ((q % 512 : Nat) : Int) := by
        have := i64_and q 511 (by omega) (by omega)
        rw [perm_low] at this
        exact this
      have a2 : bits .and .i64 (q : Int) 2147483648 = (((q.testBit 31).toNat * 2147483648 : Nat) : Int) := by
        have := i64_and q 2147483648 (by omega) (by omega)
        rw [perm_dir] at this
        exact this
      unfold permOk at hk
      simp only [decide_eq_true_eq] at hk
      simp only [if_true, Bool.true_and] at hM hD hE
      subst hE
      clear hl
      by_cases hs : q < 512
      · have b1 : q.testBit 31 = false := bit31_lt q (by omega)
        rw [b1] at a2
        have a3 : (bits .and .i64 (q : Int) 2147483648 != 0) = false := by rw [a2]; rfl
        have e1 : q % 512 = q := by omega
        rw [e1] at a1
        rw [if_pos (by omega)] at hM
        have e2 : decide ((2147483648 : Int) ≤ q) = false := by simp; omega
        rw [e2] at hD
        subst hM hD
        clear hk a2 b1 e1 e2
        go_enter Try.func9, Try.ntmps9
        go_wp2
        go_ret3
        exact ⟨rfl, rfl⟩
      · have b1 : q.testBit 31 = true := bit31_mid q (by omega) (by omega)
        rw [b1] at a2
        have a3 : (bits .and .i64 (q : Int) 2147483648 != 0) = true := by rw [a2]; rfl
        have e1 : ((q % 512 : Nat) : Int) = (q : Int) - 2147483648 := by omega
        rw [e1] at a1
        rw [if_neg (by omega)] at hM
        have e2 : decide ((2147483648 : Int) ≤ q) = true := by simp; omega
        rw [e2] at hD
        subst hM hD
        clear hk a2 b1 e1 e2
        go_enter Try.func9, Try.ntmps9
        go_wp2
        go_ret3
        exact ⟨rfl, rfl⟩

theorem refPerm_any (p : Int) (w : World) (h0 : -9223372036854775808 ≤ p) (h1 : p ≤ 9223372036854775807) :
    Calls Try.prog 10 #[.int .i64 p] w fun e w' => e = .returned (.tuple #[.int .i64 (permM p), .bool (permD p), .bool (permOk p)]) ∧ w = w' := by
  generalize hM : permM p = M
  generalize hD : permD p = D
  generalize hK : permOk p = K
  unfold permM at hM
  unfold permD at hD
  rw [hK] at hM hD
  unfold permOk at hK
  by_cases ha : 0 ≤ p ∧ p < 512
  · obtain ⟨a1, a2⟩ := ha
    have e : K = true := by rw [← hK]; simp; omega
    subst e
    rw [if_pos rfl, if_pos a2] at hM
    have e2 : decide ((2147483648 : Int) ≤ p) = false := by simp; omega
    rw [e2] at hD
    simp at hD
    subst hM hD
    clear hK e2
    go_enter Try.func10, Try.ntmps10
    go_wp2
    go_ret3
    exact ⟨rfl, rfl⟩
  · by_cases hb : 2147483648 ≤ p ∧ p < 2147484160
    · obtain ⟨b1, b2⟩ := hb
      have e : K = true := by rw [← hK]; simp; omega
      subst e
      rw [if_pos rfl, if_neg (by omega)] at hM
      have e2 : decide ((2147483648 : Int) ≤ p) = true := by simp; omega
      have e3 : decide (p < 512) = false := by simp; omega
      rw [e2] at hD
      simp at hD
      subst hM hD
      clear hK e2 ha
      go_enter Try.func10, Try.ntmps10
      go_wp2
      go_ret3
      exact ⟨rfl, rfl⟩
    · have e : K = false := by rw [← hK]; simp; omega
      subst e
      simp at hM hD
      subst hM hD
      clear hK
      by_cases c1 : 0 ≤ p
      · have c2 : decide (p < 512) = false := by simp; omega
        by_cases c3 : 2147483648 ≤ p
        · have c4 : decide (p < 2147484160) = false := by simp; omega
          clear ha hb
          go_enter Try.func10, Try.ntmps10
          go_wp2
          go_ret3
          exact ⟨rfl, rfl⟩
        · have c4 : decide ((2147483648 : Int) ≤ p) = false := by simp; omega
          clear ha hb
          go_enter Try.func10, Try.ntmps10
          go_wp2
          go_ret3
          exact ⟨rfl, rfl⟩
      · have c3 : decide ((2147483648 : Int) ≤ p) = false := by simp; omega
        have c5 : decide ((0 : Int) ≤ p) = false := by simp; omega
        clear ha hb
        go_enter Try.func10, Try.ntmps10
        go_wp2
        go_ret3
        exact ⟨rfl, rfl⟩
end Go.Proofs.Ytanafeeekofejaa
