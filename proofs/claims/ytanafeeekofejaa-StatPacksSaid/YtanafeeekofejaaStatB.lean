/-
  Layer 19: the modes of opening.
-/
import Derived.Test.YtanafeeekofejaaStatA
namespace Go.Proofs.Ytanafeeekofejaa
open Go.RowKit
set_option linter.unusedVariables false

/-- A mode of opening? -/
def mOk (m : Int) : Bool := decide (m = 0 ∨ m = 1 ∨ m = 2 ∨ m = 16 ∨ m = 17 ∨ m = 18)
def mRd (m : Int) : Bool := decide (m = 0 ∨ m = 2 ∨ m = 16 ∨ m = 18)
def mWr (m : Int) : Bool := decide (m = 1 ∨ m = 2 ∨ m = 17 ∨ m = 18)
def mCt (m : Int) : Bool := decide (m = 16 ∨ m = 17 ∨ m = 18)
def mHow (m : Int) : Int := if m < 16 then m else m - 16
theorem modes (m : Int) : m = 0 ∨ m = 1 ∨ m = 2 ∨ m = 16 ∨ m = 17 ∨ m = 18 ∨ (m ≠ 0 ∧ m ≠ 1 ∧ m ≠ 2 ∧ m ≠ 16 ∧ m ≠ 17 ∧ m ≠ 18) := by omega

theorem bit4 (p : Nat) : p &&& 16 = (p.testBit 4).toNat * 16 := and_two_pow p 4
theorem how_nat (q : Nat) (h : q < 9223372036854775808) (hm : mOk q = false) : bits .andNot .i64 (q : Int) 16 ≠ 0 ∧ bits .andNot .i64 (q : Int) 16 ≠ 1 ∧ bits .andNot .i64 (q : Int) 16 ≠ 2 := by
  have e : bits .andNot .i64 (q : Int) 16 = ((q - (q &&& 16) : Nat) : Int) := i64_andNot q 16 h (by omega)
  rw [e, bit4]
  unfold mOk at hm
  simp only [decide_eq_false_iff_not] at hm
  cases hb : q.testBit 4 with
  | false => simp only [Bool.toNat_false]; omega
  | true =>
    have := Nat.ge_two_pow_of_testBit hb
    simp only [Bool.toNat_true]; omega
theorem how_neg (m : Int) (h0 : -9223372036854775808 ≤ m) (h1 : m < 0) : bits .andNot .i64 m 16 < 0 := by
  show IntKind.i64.wrap ((BitVec.ofInt 64 m &&& ~~~ BitVec.ofInt 64 16).toNat : Int) < 0
  have hx : (BitVec.ofInt 64 m).getLsbD 63 = true := by
    have e : (BitVec.ofInt 64 m).msb = true := by
      rw [BitVec.msb_eq_toInt, BitVec.toInt_ofInt]
      simp
      rw [Int.bmod_eq_of_le (by omega) (by omega)]
      exact h1
    simpa [BitVec.msb, BitVec.getMsbD] using e
  have hy : (BitVec.ofInt 64 m &&& ~~~ BitVec.ofInt 64 16).getLsbD 63 = true := by
    rw [BitVec.getLsbD_and, hx, BitVec.getLsbD_not]
    decide
  have hz : 2 ^ 63 ≤ (BitVec.ofInt 64 m &&& ~~~ BitVec.ofInt 64 16).toNat := Nat.ge_two_pow_of_testBit hy
  have hl := (BitVec.ofInt 64 m &&& ~~~ BitVec.ofInt 64 16).isLt
  generalize (BitVec.ofInt 64 m &&& ~~~ BitVec.ofInt 64 16).toNat = n at hz hl
  rw [IntKind.wrap_i64]
  omega
theorem how_other (m : Int) (h0 : -9223372036854775808 ≤ m) (h1 : m ≤ 9223372036854775807) (hm : mOk m = false) : bits .andNot .i64 m 16 ≠ 0 ∧ bits .andNot .i64 m 16 ≠ 1 ∧ bits .andNot .i64 m 16 ≠ 2 := by
  by_cases hn : m < 0
  · have := how_neg m h0 hn
    omega
  · obtain ⟨q, rfl⟩ : ∃ q : Nat, m = q := ⟨m.toNat, by omega⟩
    exact how_nat q (by omega) hm

def OpPost (w : World) (m : Int) (e : Ending) (w' : World) : Prop := ∃ h : Int, (mOk m = true → h = mHow m) ∧ e = .returned (.tuple #[.int .i64 h, .bool (mOk m)]) ∧ w = w'

theorem opens_any (m : Int) (w : World) (h0 : -9223372036854775808 ≤ m) (h1 : m ≤ 9223372036854775807) :
    Calls Try.prog 34 #[.int .i64 m] w (OpPost w m) := by
  rcases modes m with rfl | rfl | rfl | rfl | rfl | rfl | hno
  · have hb : bits .andNot .i64 (0 : Int) 16 = 0 := by decide
    go_enter Try.func34, Try.ntmps34
    go_wp2
    go_ret2
    exact ⟨0, fun _ => by decide, rfl, rfl⟩
  · have hb : bits .andNot .i64 (1 : Int) 16 = 1 := by decide
    go_enter Try.func34, Try.ntmps34
    go_wp2
    go_ret2
    exact ⟨1, fun _ => by decide, rfl, rfl⟩
  · have hb : bits .andNot .i64 (2 : Int) 16 = 2 := by decide
    go_enter Try.func34, Try.ntmps34
    go_wp2
    go_ret2
    exact ⟨2, fun _ => by decide, rfl, rfl⟩
  · have hb : bits .andNot .i64 (16 : Int) 16 = 0 := by decide
    go_enter Try.func34, Try.ntmps34
    go_wp2
    go_ret2
    exact ⟨0, fun _ => by decide, rfl, rfl⟩
  · have hb : bits .andNot .i64 (17 : Int) 16 = 1 := by decide
    go_enter Try.func34, Try.ntmps34
    go_wp2
    go_ret2
    exact ⟨1, fun _ => by decide, rfl, rfl⟩
  · have hb : bits .andNot .i64 (18 : Int) 16 = 2 := by decide
    go_enter Try.func34, Try.ntmps34
    go_wp2
    go_ret2
    exact ⟨2, fun _ => by decide, rfl, rfl⟩
  · have hm : mOk m = false := by unfold mOk; simp; omega
    obtain ⟨a, b, c⟩ := how_other m h0 h1 hm
    generalize hH : bits .andNot .i64 m 16 = H at a b c
    have d0 : (H == 0) = false := by simpa using a
    have d1 : (H == 1) = false := by simpa using b
    have d2 : (H == 2) = false := by simpa using c
    have HM := Lib.hid hm
    clear hm hno a b c
    go_enter Try.func34, Try.ntmps34
    go_wp2
    go_ret2
    exact ⟨H, (fun h => by rw [HM.out] at h; cases h), by rw [HM.out]; rfl, rfl⟩

theorem refMode_any (m : Int) (w : World) (h0 : -9223372036854775808 ≤ m) (h1 : m ≤ 9223372036854775807) :
    Calls Try.prog 35 #[.int .i64 m] w fun e w' => e = .returned (.bool (mOk m)) ∧ w = w' := by
  generalize hS : mOk m = s
  rcases modes m with rfl | rfl | rfl | rfl | rfl | rfl | ⟨a0, a1, a2, a16, a17, a18⟩
  · obtain rfl : s = true := by rw [← hS]; decide
    clear hS
    go_enter Try.func35, Try.ntmps35
    go_wp2
    go_ret
    exact ⟨rfl, rfl⟩
  · obtain rfl : s = true := by rw [← hS]; decide
    clear hS
    go_enter Try.func35, Try.ntmps35
    go_wp2
    go_ret
    exact ⟨rfl, rfl⟩
  · obtain rfl : s = true := by rw [← hS]; decide
    clear hS
    go_enter Try.func35, Try.ntmps35
    go_wp2
    go_ret
    exact ⟨rfl, rfl⟩
  · obtain rfl : s = true := by rw [← hS]; decide
    clear hS
    go_enter Try.func35, Try.ntmps35
    go_wp2
    go_ret
    exact ⟨rfl, rfl⟩
  · obtain rfl : s = true := by rw [← hS]; decide
    clear hS
    go_enter Try.func35, Try.ntmps35
    go_wp2
    go_ret
    exact ⟨rfl, rfl⟩
  · obtain rfl : s = true := by rw [← hS]; decide
    clear hS
    go_enter Try.func35, Try.ntmps35
    go_wp2
    go_ret
    exact ⟨rfl, rfl⟩
  · obtain rfl : s = false := by rw [← hS]; unfold mOk; simp; omega
    have d0 : (m == 0) = false := by simpa using a0
    have d1 : (m == 1) = false := by simpa using a1
    have d2 : (m == 2) = false := by simpa using a2
    have d16 : (m == 16) = false := by simpa using a16
    have d17 : (m == 17) = false := by simpa using a17
    have d18 : (m == 18) = false := by simpa using a18
    clear hS a0 a1 a2 a16 a17 a18
    go_enter Try.func35, Try.ntmps35
    go_wp2
    go_ret
    exact ⟨rfl, rfl⟩

theorem reads_any (m : Int) (w : World) (h0 : -9223372036854775808 ≤ m) (h1 : m ≤ 9223372036854775807) :
    Calls Try.prog 14 #[.int .i64 m] w fun e w' => e = .returned (.bool (mRd m)) ∧ w = w' := by
  generalize hS : mRd m = s
  rcases modes m with rfl | rfl | rfl | rfl | rfl | rfl | hno
  · obtain rfl : s = true := by rw [← hS]; decide
    clear hS
    go_enter Try.func14, Try.ntmps14
    go_wp2_with fail
    refine (opens_any 0 _ (by omega) (by omega)).mono ?_
    rintro e w1 ⟨h, hh, rfl, rfl⟩
    obtain rfl := hh (by decide)
    have hk : mOk 0 = true := by decide
    have hw : mHow 0 = 0 := by decide
    rw [hk, hw]
    clear hk hw hh
    go_wp2
    go_ret
    exact ⟨rfl, rfl⟩
  · obtain rfl : s = false := by rw [← hS]; decide
    clear hS
    go_enter Try.func14, Try.ntmps14
    go_wp2_with fail
    refine (opens_any 1 _ (by omega) (by omega)).mono ?_
    rintro e w1 ⟨h, hh, rfl, rfl⟩
    obtain rfl := hh (by decide)
    have hk : mOk 1 = true := by decide
    have hw : mHow 1 = 1 := by decide
    rw [hk, hw]
    clear hk hw hh
    go_wp2
    go_ret
    exact ⟨rfl, rfl⟩
  · obtain rfl : s = true := by rw [← hS]; decide
    clear hS
    go_enter Try.func14, Try.ntmps14
    go_wp2_with fail
    refine (opens_any 2 _ (by omega) (by omega)).mono ?_
    rintro e w1 ⟨h, hh, rfl, rfl⟩
    obtain rfl := hh (by decide)
    have hk : mOk 2 = true := by decide
    have hw : mHow 2 = 2 := by decide
    rw [hk, hw]
    clear hk hw hh
    go_wp2
    go_ret
    exact ⟨rfl, rfl⟩
  · obtain rfl : s = true := by rw [← hS]; decide
    clear hS
    go_enter Try.func14, Try.ntmps14
    go_wp2_with fail
    refine (opens_any 16 _ (by omega) (by omega)).mono ?_
    rintro e w1 ⟨h, hh, rfl, rfl⟩
    obtain rfl := hh (by decide)
    have hk : mOk 16 = true := by decide
    have hw : mHow 16 = 0 := by decide
    rw [hk, hw]
    clear hk hw hh
    go_wp2
    go_ret
    exact ⟨rfl, rfl⟩
  · obtain rfl : s = false := by rw [← hS]; decide
    clear hS
    go_enter Try.func14, Try.ntmps14
    go_wp2_with fail
    refine (opens_any 17 _ (by omega) (by omega)).mono ?_
    rintro e w1 ⟨h, hh, rfl, rfl⟩
    obtain rfl := hh (by decide)
    have hk : mOk 17 = true := by decide
    have hw : mHow 17 = 1 := by decide
    rw [hk, hw]
    clear hk hw hh
    go_wp2
    go_ret
    exact ⟨rfl, rfl⟩
  · obtain rfl : s = true := by rw [← hS]; decide
    clear hS
    go_enter Try.func14, Try.ntmps14
    go_wp2_with fail
    refine (opens_any 18 _ (by omega) (by omega)).mono ?_
    rintro e w1 ⟨h, hh, rfl, rfl⟩
    obtain rfl := hh (by decide)
    have hk : mOk 18 = true := by decide
    have hw : mHow 18 = 2 := by decide
    rw [hk, hw]
    clear hk hw hh
    go_wp2
    go_ret
    exact ⟨rfl, rfl⟩
  · obtain rfl : s = false := by rw [← hS]; unfold mRd; simp; omega
    have hm : mOk m = false := by unfold mOk; simp; omega
    clear hS hno
    go_enter Try.func14, Try.ntmps14
    go_wp2_with fail
    refine (opens_any m _ (by omega) (by omega)).mono ?_
    rintro e w1 ⟨h, hh, rfl, rfl⟩
    rw [hm]
    clear hh hm
    go_wp2
    go_ret
    exact ⟨rfl, rfl⟩

theorem refReads_any (m : Int) (w : World) (h0 : -9223372036854775808 ≤ m) (h1 : m ≤ 9223372036854775807) :
    Calls Try.prog 15 #[.int .i64 m] w fun e w' => e = .returned (.bool (mRd m)) ∧ w = w' := by
  generalize hS : mRd m = s
  rcases modes m with rfl | rfl | rfl | rfl | rfl | rfl | ⟨a0, a1, a2, a16, a17, a18⟩
  · obtain rfl : s = true := by rw [← hS]; decide
    clear hS
    go_enter Try.func15, Try.ntmps15
    go_wp2
    go_ret
    exact ⟨rfl, rfl⟩
  · obtain rfl : s = false := by rw [← hS]; decide
    clear hS
    go_enter Try.func15, Try.ntmps15
    go_wp2
    go_ret
    exact ⟨rfl, rfl⟩
  · obtain rfl : s = true := by rw [← hS]; decide
    clear hS
    go_enter Try.func15, Try.ntmps15
    go_wp2
    go_ret
    exact ⟨rfl, rfl⟩
  · obtain rfl : s = true := by rw [← hS]; decide
    clear hS
    go_enter Try.func15, Try.ntmps15
    go_wp2
    go_ret
    exact ⟨rfl, rfl⟩
  · obtain rfl : s = false := by rw [← hS]; decide
    clear hS
    go_enter Try.func15, Try.ntmps15
    go_wp2
    go_ret
    exact ⟨rfl, rfl⟩
  · obtain rfl : s = true := by rw [← hS]; decide
    clear hS
    go_enter Try.func15, Try.ntmps15
    go_wp2
    go_ret
    exact ⟨rfl, rfl⟩
  · obtain rfl : s = false := by rw [← hS]; unfold mRd; simp; omega
    have d0 : (m == 0) = false := by simpa using a0
    have d1 : (m == 1) = false := by simpa using a1
    have d2 : (m == 2) = false := by simpa using a2
    have d16 : (m == 16) = false := by simpa using a16
    have d17 : (m == 17) = false := by simpa using a17
    have d18 : (m == 18) = false := by simpa using a18
    clear hS a0 a1 a2 a16 a17 a18
    go_enter Try.func15, Try.ntmps15
    go_wp2
    go_ret
    exact ⟨rfl, rfl⟩

theorem writes_any (m : Int) (w : World) (h0 : -9223372036854775808 ≤ m) (h1 : m ≤ 9223372036854775807) :
    Calls Try.prog 16 #[.int .i64 m] w fun e w' => e = .returned (.bool (mWr m)) ∧ w = w' := by
  generalize hS : mWr m = s
  rcases modes m with rfl | rfl | rfl | rfl | rfl | rfl | hno
  · obtain rfl : s = false := by rw [← hS]; decide
    clear hS
    go_enter Try.func16, Try.ntmps16
    go_wp2_with fail
    refine (opens_any 0 _ (by omega) (by omega)).mono ?_
    rintro e w1 ⟨h, hh, rfl, rfl⟩
    obtain rfl := hh (by decide)
    have hk : mOk 0 = true := by decide
    have hw : mHow 0 = 0 := by decide
    rw [hk, hw]
    clear hk hw hh
    go_wp2
    go_ret
    exact ⟨rfl, rfl⟩
  · obtain rfl : s = true := by rw [← hS]; decide
    clear hS
    go_enter Try.func16, Try.ntmps16
    go_wp2_with fail
    refine (opens_any 1 _ (by omega) (by omega)).mono ?_
    rintro e w1 ⟨h, hh, rfl, rfl⟩
    obtain rfl := hh (by decide)
    have hk : mOk 1 = true := by decide
    have hw : mHow 1 = 1 := by decide
    rw [hk, hw]
    clear hk hw hh
    go_wp2
    go_ret
    exact ⟨rfl, rfl⟩
  · obtain rfl : s = true := by rw [← hS]; decide
    clear hS
    go_enter Try.func16, Try.ntmps16
    go_wp2_with fail
    refine (opens_any 2 _ (by omega) (by omega)).mono ?_
    rintro e w1 ⟨h, hh, rfl, rfl⟩
    obtain rfl := hh (by decide)
    have hk : mOk 2 = true := by decide
    have hw : mHow 2 = 2 := by decide
    rw [hk, hw]
    clear hk hw hh
    go_wp2
    go_ret
    exact ⟨rfl, rfl⟩
  · obtain rfl : s = false := by rw [← hS]; decide
    clear hS
    go_enter Try.func16, Try.ntmps16
    go_wp2_with fail
    refine (opens_any 16 _ (by omega) (by omega)).mono ?_
    rintro e w1 ⟨h, hh, rfl, rfl⟩
    obtain rfl := hh (by decide)
    have hk : mOk 16 = true := by decide
    have hw : mHow 16 = 0 := by decide
    rw [hk, hw]
    clear hk hw hh
    go_wp2
    go_ret
    exact ⟨rfl, rfl⟩
  · obtain rfl : s = true := by rw [← hS]; decide
    clear hS
    go_enter Try.func16, Try.ntmps16
    go_wp2_with fail
    refine (opens_any 17 _ (by omega) (by omega)).mono ?_
    rintro e w1 ⟨h, hh, rfl, rfl⟩
    obtain rfl := hh (by decide)
    have hk : mOk 17 = true := by decide
    have hw : mHow 17 = 1 := by decide
    rw [hk, hw]
    clear hk hw hh
    go_wp2
    go_ret
    exact ⟨rfl, rfl⟩
  · obtain rfl : s = true := by rw [← hS]; decide
    clear hS
    go_enter Try.func16, Try.ntmps16
    go_wp2_with fail
    refine (opens_any 18 _ (by omega) (by omega)).mono ?_
    rintro e w1 ⟨h, hh, rfl, rfl⟩
    obtain rfl := hh (by decide)
    have hk : mOk 18 = true := by decide
    have hw : mHow 18 = 2 := by decide
    rw [hk, hw]
    clear hk hw hh
    go_wp2
    go_ret
    exact ⟨rfl, rfl⟩
  · obtain rfl : s = false := by rw [← hS]; unfold mWr; simp; omega
    have hm : mOk m = false := by unfold mOk; simp; omega
    clear hS hno
    go_enter Try.func16, Try.ntmps16
    go_wp2_with fail
    refine (opens_any m _ (by omega) (by omega)).mono ?_
    rintro e w1 ⟨h, hh, rfl, rfl⟩
    rw [hm]
    clear hh hm
    go_wp2
    go_ret
    exact ⟨rfl, rfl⟩

theorem refWrites_any (m : Int) (w : World) (h0 : -9223372036854775808 ≤ m) (h1 : m ≤ 9223372036854775807) :
    Calls Try.prog 17 #[.int .i64 m] w fun e w' => e = .returned (.bool (mWr m)) ∧ w = w' := by
  generalize hS : mWr m = s
  rcases modes m with rfl | rfl | rfl | rfl | rfl | rfl | ⟨a0, a1, a2, a16, a17, a18⟩
  · obtain rfl : s = false := by rw [← hS]; decide
    clear hS
    go_enter Try.func17, Try.ntmps17
    go_wp2
    go_ret
    exact ⟨rfl, rfl⟩
  · obtain rfl : s = true := by rw [← hS]; decide
    clear hS
    go_enter Try.func17, Try.ntmps17
    go_wp2
    go_ret
    exact ⟨rfl, rfl⟩
  · obtain rfl : s = true := by rw [← hS]; decide
    clear hS
    go_enter Try.func17, Try.ntmps17
    go_wp2
    go_ret
    exact ⟨rfl, rfl⟩
  · obtain rfl : s = false := by rw [← hS]; decide
    clear hS
    go_enter Try.func17, Try.ntmps17
    go_wp2
    go_ret
    exact ⟨rfl, rfl⟩
  · obtain rfl : s = true := by rw [← hS]; decide
    clear hS
    go_enter Try.func17, Try.ntmps17
    go_wp2
    go_ret
    exact ⟨rfl, rfl⟩
  · obtain rfl : s = true := by rw [← hS]; decide
    clear hS
    go_enter Try.func17, Try.ntmps17
    go_wp2
    go_ret
    exact ⟨rfl, rfl⟩
  · obtain rfl : s = false := by rw [← hS]; unfold mWr; simp; omega
    have d0 : (m == 0) = false := by simpa using a0
    have d1 : (m == 1) = false := by simpa using a1
    have d2 : (m == 2) = false := by simpa using a2
    have d16 : (m == 16) = false := by simpa using a16
    have d17 : (m == 17) = false := by simpa using a17
    have d18 : (m == 18) = false := by simpa using a18
    clear hS a0 a1 a2 a16 a17 a18
    go_enter Try.func17, Try.ntmps17
    go_wp2
    go_ret
    exact ⟨rfl, rfl⟩

theorem cuts_any (m : Int) (w : World) (h0 : -9223372036854775808 ≤ m) (h1 : m ≤ 9223372036854775807) :
    Calls Try.prog 18 #[.int .i64 m] w fun e w' => e = .returned (.bool (mCt m)) ∧ w = w' := by
  generalize hS : mCt m = s
  rcases modes m with rfl | rfl | rfl | rfl | rfl | rfl | hno
  · obtain rfl : s = false := by rw [← hS]; decide
    clear hS
    go_enter Try.func18, Try.ntmps18
    go_wp2_with fail
    refine (opens_any 0 _ (by omega) (by omega)).mono ?_
    rintro e w1 ⟨h, hh, rfl, rfl⟩
    obtain rfl := hh (by decide)
    have hk : mOk 0 = true := by decide
    have hw : mHow 0 = 0 := by decide
    rw [hk, hw]
    clear hk hw hh
    go_wp2
    go_ret
    exact ⟨rfl, rfl⟩
  · obtain rfl : s = false := by rw [← hS]; decide
    clear hS
    go_enter Try.func18, Try.ntmps18
    go_wp2_with fail
    refine (opens_any 1 _ (by omega) (by omega)).mono ?_
    rintro e w1 ⟨h, hh, rfl, rfl⟩
    obtain rfl := hh (by decide)
    have hk : mOk 1 = true := by decide
    have hw : mHow 1 = 1 := by decide
    rw [hk, hw]
    clear hk hw hh
    go_wp2
    go_ret
    exact ⟨rfl, rfl⟩
  · obtain rfl : s = false := by rw [← hS]; decide
    clear hS
    go_enter Try.func18, Try.ntmps18
    go_wp2_with fail
    refine (opens_any 2 _ (by omega) (by omega)).mono ?_
    rintro e w1 ⟨h, hh, rfl, rfl⟩
    obtain rfl := hh (by decide)
    have hk : mOk 2 = true := by decide
    have hw : mHow 2 = 2 := by decide
    rw [hk, hw]
    clear hk hw hh
    go_wp2
    go_ret
    exact ⟨rfl, rfl⟩
  · obtain rfl : s = true := by rw [← hS]; decide
    clear hS
    go_enter Try.func18, Try.ntmps18
    go_wp2_with fail
    refine (opens_any 16 _ (by omega) (by omega)).mono ?_
    rintro e w1 ⟨h, hh, rfl, rfl⟩
    obtain rfl := hh (by decide)
    have hk : mOk 16 = true := by decide
    have hw : mHow 16 = 0 := by decide
    rw [hk, hw]
    clear hk hw hh
    go_wp2
    go_ret
    exact ⟨rfl, rfl⟩
  · obtain rfl : s = true := by rw [← hS]; decide
    clear hS
    go_enter Try.func18, Try.ntmps18
    go_wp2_with fail
    refine (opens_any 17 _ (by omega) (by omega)).mono ?_
    rintro e w1 ⟨h, hh, rfl, rfl⟩
    obtain rfl := hh (by decide)
    have hk : mOk 17 = true := by decide
    have hw : mHow 17 = 1 := by decide
    rw [hk, hw]
    clear hk hw hh
    go_wp2
    go_ret
    exact ⟨rfl, rfl⟩
  · obtain rfl : s = true := by rw [← hS]; decide
    clear hS
    go_enter Try.func18, Try.ntmps18
    go_wp2_with fail
    refine (opens_any 18 _ (by omega) (by omega)).mono ?_
    rintro e w1 ⟨h, hh, rfl, rfl⟩
    obtain rfl := hh (by decide)
    have hk : mOk 18 = true := by decide
    have hw : mHow 18 = 2 := by decide
    rw [hk, hw]
    clear hk hw hh
    go_wp2
    go_ret
    exact ⟨rfl, rfl⟩
  · obtain rfl : s = false := by rw [← hS]; unfold mCt; simp; omega
    have hm : mOk m = false := by unfold mOk; simp; omega
    clear hS hno
    go_enter Try.func18, Try.ntmps18
    go_wp2_with fail
    refine (opens_any m _ (by omega) (by omega)).mono ?_
    rintro e w1 ⟨h, hh, rfl, rfl⟩
    rw [hm]
    clear hh hm
    go_wp2
    go_ret
    exact ⟨rfl, rfl⟩

theorem refCuts_any (m : Int) (w : World) (h0 : -9223372036854775808 ≤ m) (h1 : m ≤ 9223372036854775807) :
    Calls Try.prog 19 #[.int .i64 m] w fun e w' => e = .returned (.bool (mCt m)) ∧ w = w' := by
  generalize hS : mCt m = s
  rcases modes m with rfl | rfl | rfl | rfl | rfl | rfl | ⟨a0, a1, a2, a16, a17, a18⟩
  · obtain rfl : s = false := by rw [← hS]; decide
    clear hS
    go_enter Try.func19, Try.ntmps19
    go_wp2
    go_ret
    exact ⟨rfl, rfl⟩
  · obtain rfl : s = false := by rw [← hS]; decide
    clear hS
    go_enter Try.func19, Try.ntmps19
    go_wp2
    go_ret
    exact ⟨rfl, rfl⟩
  · obtain rfl : s = false := by rw [← hS]; decide
    clear hS
    go_enter Try.func19, Try.ntmps19
    go_wp2
    go_ret
    exact ⟨rfl, rfl⟩
  · obtain rfl : s = true := by rw [← hS]; decide
    clear hS
    go_enter Try.func19, Try.ntmps19
    go_wp2
    go_ret
    exact ⟨rfl, rfl⟩
  · obtain rfl : s = true := by rw [← hS]; decide
    clear hS
    go_enter Try.func19, Try.ntmps19
    go_wp2
    go_ret
    exact ⟨rfl, rfl⟩
  · obtain rfl : s = true := by rw [← hS]; decide
    clear hS
    go_enter Try.func19, Try.ntmps19
    go_wp2
    go_ret
    exact ⟨rfl, rfl⟩
  · obtain rfl : s = false := by rw [← hS]; unfold mCt; simp; omega
    have d0 : (m == 0) = false := by simpa using a0
    have d1 : (m == 1) = false := by simpa using a1
    have d2 : (m == 2) = false := by simpa using a2
    have d16 : (m == 16) = false := by simpa using a16
    have d17 : (m == 17) = false := by simpa using a17
    have d18 : (m == 18) = false := by simpa using a18
    clear hS a0 a1 a2 a16 a17 a18
    go_enter Try.func19, Try.ntmps19
    go_wp2
    go_ret
    exact ⟨rfl, rfl⟩

/-- What is told of opening. -/
def opE (m kind : Int) : Int := if mOk m then (if kind = 1 ∧ m ≠ 0 then 12 else 0) else 19

theorem statOpens_any (m ino gen kind mode size : Int) (w : World) (h0 : -9223372036854775808 ≤ m) (h1 : m ≤ 9223372036854775807) :
    Calls Try.prog 12 #[.int .i64 m, .agg #[.int .i64 ino, .int .i64 gen, .int .i64 kind, .int .i64 mode, .int .i64 size]] w fun e w' => e = .returned (.int .i64 (opE m kind)) ∧ Below w.heap.size w w' := by
  generalize hE : opE m kind = E
  unfold opE at hE
  cases hk : mOk m with
  | false =>
    rw [hk] at hE
    simp at hE
    subst hE
    go_enter Try.func12, Try.ntmps12
    go_wp2_with fail
    refine (opens_any _ _ (by omega) (by omega)).mono ?_
    rintro e w1 ⟨h, hh, rfl, rfl⟩
    rw [hk]
    clear hk hh
    go_wp2
    go_ret
    exact ⟨rfl, (Below.refl _ _).alloc (Nat.le_refl _) _⟩
  | true =>
    rw [hk] at hE
    simp only [if_true] at hE
    by_cases h1k : kind = 1
    · subst h1k
      by_cases hm0 : m = 0
      · subst hm0
        simp at hE
        subst hE
        go_enter Try.func12, Try.ntmps12
        go_wp2_with fail
        refine (opens_any _ _ (by omega) (by omega)).mono ?_
        rintro e w1 ⟨h, hh, rfl, rfl⟩
        rw [hk]
        clear hk hh
        go_wp2
        go_ret
        exact ⟨rfl, (Below.refl _ _).alloc (Nat.le_refl _) _⟩
      · rw [if_pos ⟨rfl, hm0⟩] at hE
        have hd : (m != 0) = true := by simpa using hm0
        subst hE
        clear hm0
        go_enter Try.func12, Try.ntmps12
        go_wp2_with fail
        refine (opens_any _ _ (by omega) (by omega)).mono ?_
        rintro e w1 ⟨h, hh, rfl, rfl⟩
        rw [hk]
        clear hk hh
        go_wp2
        go_ret
        exact ⟨rfl, (Below.refl _ _).alloc (Nat.le_refl _) _⟩
    · rw [if_neg (fun h => h1k h.1)] at hE
      have hd : (kind == 1) = false := by simpa using h1k
      subst hE
      clear h1k
      go_enter Try.func12, Try.ntmps12
      go_wp2_with fail
      refine (opens_any _ _ (by omega) (by omega)).mono ?_
      rintro e w1 ⟨h, hh, rfl, rfl⟩
      rw [hk]
      clear hk hh
      go_wp2
      go_ret
      exact ⟨rfl, (Below.refl _ _).alloc (Nat.le_refl _) _⟩

theorem refOpens_any (m ino gen kind mode size : Int) (w : World) (h0 : -9223372036854775808 ≤ m) (h1 : m ≤ 9223372036854775807) :
    Calls Try.prog 13 #[.int .i64 m, .agg #[.int .i64 ino, .int .i64 gen, .int .i64 kind, .int .i64 mode, .int .i64 size]] w fun e w' => e = .returned (.int .i64 (opE m kind)) ∧ Below w.heap.size w w' := by
  generalize hE : opE m kind = E
  unfold opE at hE
  cases hk : mOk m with
  | false =>
    rw [hk] at hE
    simp at hE
    subst hE
    go_enter Try.func13, Try.ntmps13
    go_wp2_with fail
    refine (refMode_any _ _ (by omega) (by omega)).mono ?_
    rintro e w1 ⟨rfl, rfl⟩
    rw [hk]
    clear hk
    go_wp2
    go_ret
    exact ⟨rfl, (Below.refl _ _).alloc (Nat.le_refl _) _⟩
  | true =>
    rw [hk] at hE
    simp only [if_true] at hE
    by_cases h1k : kind = 1
    · subst h1k
      by_cases hm0 : m = 0
      · subst hm0
        simp at hE
        subst hE
        go_enter Try.func13, Try.ntmps13
        go_wp2_with fail
        refine (refMode_any _ _ (by omega) (by omega)).mono ?_
        rintro e w1 ⟨rfl, rfl⟩
        rw [hk]
        clear hk
        go_wp2
        go_ret
        exact ⟨rfl, (Below.refl _ _).alloc (Nat.le_refl _) _⟩
      · rw [if_pos ⟨rfl, hm0⟩] at hE
        have hd : (m != 0) = true := by simpa using hm0
        subst hE
        clear hm0
        go_enter Try.func13, Try.ntmps13
        go_wp2_with fail
        refine (refMode_any _ _ (by omega) (by omega)).mono ?_
        rintro e w1 ⟨rfl, rfl⟩
        rw [hk]
        clear hk
        go_wp2
        go_ret
        exact ⟨rfl, (Below.refl _ _).alloc (Nat.le_refl _) _⟩
    · rw [if_neg (fun h => h1k h.1)] at hE
      have hd : (kind == 1) = false := by simpa using h1k
      subst hE
      clear h1k
      go_enter Try.func13, Try.ntmps13
      go_wp2_with fail
      refine (refMode_any _ _ (by omega) (by omega)).mono ?_
      rintro e w1 ⟨rfl, rfl⟩
      rw [hk]
      clear hk
      go_wp2
      go_ret
      exact ⟨rfl, (Below.refl _ _).alloc (Nat.le_refl _) _⟩

/-- An entry's bytes. -/
def entL (s : List UInt8) (ino gen : Nat) : List UInt8 := le 2 s.length ++ (s ++ (le 4 ino ++ le 4 gen))

theorem entry_any (s : List UInt8) (ino gen : Nat) (w : World) (hs : s.length ≤ 65535) (hi : ino ≤ 4294967295) (hg : gen ≤ 4294967295) :
    Calls Try.prog 33 #[.agg #[.string (st s), .int .i64 ino, .int .i64 gen]] w (LayPost w (entL s ino gen)) := by
  go_enter Try.func33, Try.ntmps33
  go_wp2_with fail
  refine (text_any none 0 0 [] s _ RdB.nil (by omega) (by omega) hs).mono ?_
  rintro e w1 ⟨A1, n1, c1, l1, hl1, rfl, hown1, hb1⟩
  have hB := (Blk.new w 53 [.string (st s), .int .i64 ino, .int .i64 gen]).up hb1
  have k1 := hB.cell 1 _ rfl
  have hn1 : n1 ≤ 65540 := by rw [← hown1.len, hl1.out]; simp [le_length]; omega
  have hc1 := hown1.cap
  go_wp2_with fail
  refine (u32_any A1 n1 c1 l1 ino _ hown1.rd hc1.1 (by omega) hi).mono ?_
  rintro e w2 ⟨A2, n2, c2, l2, hl2, rfl, hown2, hb2⟩
  have hn2 : n2 ≤ 65550 := by rw [← hown2.len, hl2.out, List.length_append, le_length, hown1.len]; omega
  have hc2 := hown2.cap
  have k2 := (hB.up hb2).cell 2 _ rfl
  have HB1 := Lib.hid hb1
  clear k1
  go_wp2_with fail
  refine (u32_any A2 n2 c2 l2 gen _ hown2.rd hc2.1 (by omega) hg).mono ?_
  rintro e w3 ⟨A3, n3, c3, l3, hl3, rfl, hown3, hb3⟩
  have hb0 : Below w.heap.size w w1 := ((Below.refl _ _).alloc (Nat.le_refl _) _).trans (HB1.out.mono (by simp))
  have hb02 := Up.trans hb0 hb2
  go_wp2
  go_ret
  refine ⟨A3, n3, c3, l3, ?_, rfl, hown3.lower hb02.size, Up.trans hb02 hb3⟩
  show _ = _
  rw [hl3.out, hl2.out, hl1.out, entL]
  simp [List.append_assoc]

theorem lives_any (w : World) : Calls Try.prog 11 #[] w fun e w' => e = .returned (.bool true) ∧ Below w.heap.size w w' := by
  go_enter Try.func11, Try.ntmps11
  go_wp2_with fail
  refine (entry_any [97] 1 2 _ (by decide) (by omega) (by omega)).mono ?_
  rintro e w1 ⟨A1, n1, c1, l1, hl1, rfl, hown1, hb1⟩
  obtain rfl : l1 = [1, 0, 97, 1, 0, 0, 0, 2, 0, 0, 0] := by rw [hl1.out]; decide
  have hcv := str_of (c := c1) hown1.rd (Below.refl _ _)
  go_wp2_with fail
  refine (statOpens_any 3 0 0 0 0 0 _ (by omega) (by omega)).mono ?_
  rintro e w2 ⟨rfl, hb2⟩
  have he : opE 3 0 = 19 := by decide
  rw [he]
  clear he hcv
  go_wp2
  go_ret
  exact ⟨rfl, Up.trans hb1 hb2⟩
end Go.Proofs.Ytanafeeekofejaa
