/-
  Layer 19: permissions and modes, the numbers' bits.
-/
import Derived.Laws.BitsAllLaws
import Derived.Laws.BitsLemmas
namespace Go.Proofs.Ytanafeeekofejaa
open Go
set_option linter.unusedVariables false

theorem ofInt_i64 (a : Nat) (ha : a < 9223372036854775808) : (BitVec.ofInt 64 (a : Int)).toNat = a := by
  rw [BitVec.ofInt_natCast, BitVec.toNat_ofNat]; exact Nat.mod_eq_of_lt (by omega)
theorem wrap_i64_nat (a : Nat) (ha : a < 9223372036854775808) : IntKind.i64.wrap (a : Int) = a := by
  rw [IntKind.wrap_i64]; omega
theorem i64_and (a b : Nat) (ha : a < 9223372036854775808) (hb : b < 9223372036854775808) : bits .and .i64 (a : Int) (b : Int) = ((a &&& b : Nat) : Int) := by
  have hx : a &&& b < 2 ^ 63 := Nat.and_lt_two_pow _ (by omega)
  show IntKind.i64.wrap ((BitVec.ofInt 64 (a : Int) &&& BitVec.ofInt 64 (b : Int)).toNat : Int) = _
  rw [BitVec.toNat_and, ofInt_i64 a ha, ofInt_i64 b hb]
  exact wrap_i64_nat _ (by omega)
/-- a without the bits of b: what is left is what a has beside b. -/
theorem i64_andNot (a b : Nat) (ha : a < 9223372036854775808) (hb : b < 9223372036854775808) : bits .andNot .i64 (a : Int) (b : Int) = ((a - (a &&& b) : Nat) : Int) := by
  show IntKind.i64.wrap ((BitVec.ofInt 64 (a : Int) &&& ~~~ BitVec.ofInt 64 (b : Int)).toNat : Int) = _
  have h1 : (BitVec.ofInt 64 (a : Int) &&& ~~~ BitVec.ofInt 64 (b : Int)).toNat + (a &&& b) = a := by
    have e : BitVec.ofInt 64 (a : Int) = (BitVec.ofInt 64 (a : Int) &&& ~~~ BitVec.ofInt 64 (b : Int)) + (BitVec.ofInt 64 (a : Int) &&& BitVec.ofInt 64 (b : Int)) := by
      rw [BitVec.add_eq_or_of_and_eq_zero]
      · apply BitVec.eq_of_getLsbD_eq
        intro i hi
        simp only [BitVec.getLsbD_or, BitVec.getLsbD_and, BitVec.getLsbD_not]
        cases (BitVec.ofInt 64 (a : Int)).getLsbD i <;> cases (BitVec.ofInt 64 (b : Int)).getLsbD i <;> simp [hi]
      · apply BitVec.eq_of_getLsbD_eq
        intro i hi
        simp only [BitVec.getLsbD_and, BitVec.getLsbD_not]
        cases (BitVec.ofInt 64 (a : Int)).getLsbD i <;> cases (BitVec.ofInt 64 (b : Int)).getLsbD i <;> simp
    have hd : (BitVec.ofInt 64 (a : Int) &&& ~~~ BitVec.ofInt 64 (b : Int)) &&& (BitVec.ofInt 64 (a : Int) &&& BitVec.ofInt 64 (b : Int)) = 0#64 := by
      apply BitVec.eq_of_getLsbD_eq
      intro i hi
      simp only [BitVec.getLsbD_and, BitVec.getLsbD_not]
      cases (BitVec.ofInt 64 (a : Int)).getLsbD i <;> cases (BitVec.ofInt 64 (b : Int)).getLsbD i <;> simp
    have h2 := congrArg BitVec.toNat e
    rw [BitVec.toNat_add_of_and_eq_zero hd, BitVec.toNat_and _ (BitVec.ofInt 64 (b : Int)), ofInt_i64 a ha, ofInt_i64 b hb] at h2
    exact h2.symm
  have h2 : (BitVec.ofInt 64 (a : Int) &&& ~~~ BitVec.ofInt 64 (b : Int)).toNat = a - (a &&& b) := by omega
  rw [h2]
  exact wrap_i64_nat _ (by omega)

theorem and_two_pow (n i : Nat) : n &&& 2 ^ i = (n.testBit i).toNat * 2 ^ i := by
  apply Nat.eq_of_testBit_eq
  intro j
  rw [Nat.testBit_and, Nat.testBit_two_pow]
  by_cases hij : i = j
  · subst hij
    cases h : n.testBit i <;> simp
  · cases h : n.testBit i <;> simp [hij]
/-- The bits 0 to 8 and 31. -/
theorem perm_mask (p : Nat) : p &&& 2147484159 = p % 512 + (p.testBit 31).toNat * 2147483648 := by
  have h1 : (2147484159 : Nat) = 511 ||| 2 ^ 31 := by decide
  rw [h1, Nat.and_or_distrib_left, and_two_pow, show (511 : Nat) = 2 ^ 9 - 1 from rfl, Nat.and_two_pow_sub_one_eq_mod, Nat.or_comm]
  have h2 := Nat.shiftLeft_add_eq_or_of_lt (a := (p.testBit 31).toNat) (i := 31) (b := p % 2 ^ 9) (by have := Nat.mod_lt p (show 0 < 2 ^ 9 by omega); omega)
  rw [Nat.shiftLeft_eq] at h2
  rw [← h2]
  omega
theorem perm_dir (p : Nat) : p &&& 2147483648 = (p.testBit 31).toNat * 2147483648 := and_two_pow p 31
theorem perm_low (p : Nat) : p &&& 511 = p % 512 := Nat.and_two_pow_sub_one_eq_mod p 9
theorem bit31_lt (p : Nat) (h : p < 2147483648) : p.testBit 31 = false := Nat.testBit_lt_two_pow (by omega)
theorem bit31_mid (p : Nat) (h : 2147483648 ≤ p) (h2 : p < 4294967296) : p.testBit 31 = true := by
  have h3 := Nat.testBit_eq_decide_div_mod_eq (x := p) (i := 31)
  rw [h3]
  simp
  omega
/-- May the permissions be? -/
def permOk (p : Int) : Bool := decide ((0 ≤ p ∧ p < 512) ∨ (2147483648 ≤ p ∧ p < 2147484160))
theorem perm_left (p : Nat) (h : p < 9223372036854775808) : (bits .andNot .i64 (p : Int) 2147484159 != 0) = !permOk p := by
  have e := i64_andNot p 2147484159 h (by omega)
  have e' : bits .andNot .i64 (p : Int) 2147484159 = ((p - (p &&& 2147484159) : Nat) : Int) := e
  rw [e', perm_mask]
  unfold permOk
  by_cases hb : p.testBit 31 = true
  · have hge : 2147483648 ≤ p := Nat.ge_two_pow_of_testBit hb
    simp only [hb, Bool.toNat_true, Nat.one_mul]
    by_cases hc : p < 2147484160
    · have : p - (p % 512 + 2147483648) = 0 := by omega
      rw [this]
      simp; omega
    · have : p - (p % 512 + 2147483648) ≠ 0 := by omega
      rw [Bool.eq_iff_iff]
      simp; omega
  · have hb' : p.testBit 31 = false := by simpa using hb
    simp only [hb', Bool.toNat_false, Nat.zero_mul, Nat.add_zero]
    have hno : ¬ (2147483648 ≤ p ∧ p < 2147484160) := fun ⟨h1, h2⟩ => by rw [bit31_mid p h1 (by omega)] at hb'; cases hb'
    rw [Bool.eq_iff_iff]
    simp; omega
end Go.Proofs.Ytanafeeekofejaa
