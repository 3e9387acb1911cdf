/-
  Layer 2, in plain Lean: the bytes of numbers, the lowest first; a reader's states; messages split.
-/
namespace Go.Proofs.Ytoplkglnjgllnaa

/-- The k lowest bytes of n, the lowest first. -/
def le : Nat → Nat → List UInt8
  | 0, _ => []
  | k + 1, n => le k n ++ [UInt8.ofNat (n / 256 ^ k)]

theorem le_length (k n : Nat) : (le k n).length = k := by
  induction k with
  | zero => rfl
  | succ k ih => simp [le, ih]
theorem le_succ (k n : Nat) : le (k + 1) n = le k n ++ [UInt8.ofNat (n / 256 ^ k)] := rfl
theorem le_zero (n : Nat) : le 0 n = [] := rfl
/-- Lowest first, by division. -/
theorem le_cons (k n : Nat) : le (k + 1) n = UInt8.ofNat n :: le k (n / 256) := by
  induction k with
  | zero => simp [le]
  | succ k ih =>
    rw [le_succ, ih, le_succ]
    simp [Nat.div_div_eq_div_mul, Nat.pow_succ, Nat.mul_comm]

theorem le_mod (k n m : Nat) (h : 256 ^ k ∣ m) : le k (n % m) = le k n := by
  induction k generalizing n m with
  | zero => rfl
  | succ k ih =>
    obtain ⟨q, rfl⟩ := h
    rw [le_cons, le_cons]
    congr 1
    · apply UInt8.toNat_inj.1
      simp only [UInt8.toNat_ofNat']
      rw [Nat.pow_succ, Nat.mul_comm (256 ^ k), Nat.mul_assoc]
      exact Nat.mod_mul_right_mod _ _ _
    · rw [Nat.pow_succ, Nat.mul_comm (256 ^ k), Nat.mul_assoc, Nat.mod_mul_right_div_self]
      exact ih _ _ ⟨q, rfl⟩

/-- The number of bytes, the lowest first. -/
def num : List UInt8 → Nat
  | [] => 0
  | c :: l => c.toNat + 256 * num l
theorem num_lt (l : List UInt8) : num l < 256 ^ l.length := by
  induction l with
  | nil => simp [num]
  | cons c l ih =>
    have := c.toNat_lt
    simp only [num, List.length_cons, Nat.pow_succ]
    omega
theorem num_snoc (l : List UInt8) (c : UInt8) : num (l ++ [c]) = num l + c.toNat * 256 ^ l.length := by
  induction l with
  | nil => simp [num]
  | cons d l ih => simp only [List.cons_append, num, ih, List.length_cons, Nat.pow_succ]; rw [Nat.mul_add, ← Nat.add_assoc]; congr 1; rw [← Nat.mul_assoc, Nat.mul_comm 256, Nat.mul_assoc, Nat.mul_comm 256]
theorem num_le (k n : Nat) : num (le k n) = n % 256 ^ k := by
  induction k generalizing n with
  | zero => simp [le, num, Nat.mod_one]
  | succ k ih =>
    rw [le_cons, num, ih, Nat.pow_succ, Nat.mul_comm (256 ^ k), Nat.mod_mul]
    simp
theorem num_pow (l : List UInt8) (c : UInt8) : num (l ++ [c]) = num l ||| (c.toNat <<< (8 * l.length)) := by
  rw [num_snoc, Nat.or_comm, ← Nat.shiftLeft_add_eq_or_of_lt, Nat.shiftLeft_eq, Nat.add_comm]
  · congr 2
    rw [Nat.pow_mul]
  · have := num_lt l
    rw [Nat.pow_mul]
    exact this

theorem num_take_lt (l : List UInt8) (j : Nat) (h : j ≤ l.length) : num (l.take j) < 256 ^ j := by
  have := num_lt (l.take j)
  rwa [List.length_take, Nat.min_eq_left h] at this
/-- One byte more, by '|' and '<<'. -/
theorem take_or (l : List UInt8) (j : Nat) (x : UInt8) (hx : l[j]? = some x) (y : Nat) (hy : y = num (l.take j)) : y ||| (x.toNat * 2 ^ (8 * j)) = num (l.take (j + 1)) := by
  have hl : j < l.length := (List.getElem?_eq_some_iff.1 hx).1
  rw [List.take_add_one, hx, hy]
  simp only [Option.toList_some]
  rw [num_pow, List.length_take, Nat.min_eq_left (by omega), Nat.shiftLeft_eq]

/-- What the next n bytes are, and what is left, at an error that may stand. -/
def nxB (l : List UInt8) (e : Int) (n : Nat) : List UInt8 := if e = 0 ∧ n ≤ l.length then l.take n else []
def nxL (l : List UInt8) (e : Int) (n : Nat) : List UInt8 := if e = 0 ∧ n ≤ l.length then l.drop n else []
def nxE (l : List UInt8) (e : Int) (n : Nat) : Int := if e = 0 then (if n ≤ l.length then 0 else 3) else e

/-- A reader's state: no bytes are left behind an error. -/
def StOk (l : List UInt8) (e : Int) : Prop := e ≠ 0 → l = []

theorem nx_ok (l : List UInt8) (e : Int) (n : Nat) : StOk (nxL l e n) (nxE l e n) := by
  unfold StOk nxL nxE
  intro h
  split at h
  · split at h
    · exact absurd rfl h
    · rw [if_neg (by rintro ⟨_, h2⟩; contradiction)]
  · rw [if_neg (by rintro ⟨h2, _⟩; contradiction)]

theorem nxB_le (l : List UInt8) (e : Int) (k : Nat) : (nxB l e k).length ≤ l.length := by
  unfold nxB; split
  · rw [List.length_take]; omega
  · simp
theorem nxL_le (l : List UInt8) (e : Int) (k : Nat) : (nxL l e k).length ≤ l.length := by
  unfold nxL; split
  · rw [List.length_drop]; omega
  · simp

/-- A text: its length, and it. -/
def txB (l : List UInt8) (e : Int) : List UInt8 := nxB (nxL l e 2) (nxE l e 2) (num (nxB l e 2))
def txL (l : List UInt8) (e : Int) : List UInt8 := nxL (nxL l e 2) (nxE l e 2) (num (nxB l e 2))
def txE (l : List UInt8) (e : Int) : Int := nxE (nxL l e 2) (nxE l e 2) (num (nxB l e 2))
/-- Data: their length, and they; more than most are none. -/
def dtBad (l : List UInt8) (e most : Int) : Prop := nxE l e 4 = 0 ∧ most < num (nxB l e 4)
instance (l : List UInt8) (e most : Int) : Decidable (dtBad l e most) := by unfold dtBad; infer_instance
def dtB (l : List UInt8) (e most : Int) : List UInt8 := if dtBad l e most then [] else nxB (nxL l e 4) (nxE l e 4) (num (nxB l e 4))
def dtL (l : List UInt8) (e most : Int) : List UInt8 := if dtBad l e most then [] else nxL (nxL l e 4) (nxE l e 4) (num (nxB l e 4))
def dtE (l : List UInt8) (e most : Int) : Int := if dtBad l e most then 4 else nxE (nxL l e 4) (nxE l e 4) (num (nxB l e 4))
/-- The error, or that bytes are left. -/
def endE (l : List UInt8) (e : Int) : Int := if e = 0 ∧ 0 < l.length then 2 else e

/-- A message. -/
def packL (kind tag : Nat) (body : List UInt8) : List UInt8 := le 4 (7 + body.length) ++ (le 1 kind ++ (le 2 tag ++ body))
end Go.Proofs.Ytoplkglnjgllnaa
