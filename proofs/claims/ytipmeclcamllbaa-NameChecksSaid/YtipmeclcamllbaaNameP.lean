/-
  Prints of texts, in plain Lean.
-/
namespace Go.Proofs.Ytipmeclcamllbaa

def hexd (n : Nat) : UInt8 := if n < 10 then UInt8.ofNat (48 + n) else UInt8.ofNat (87 + n)
/-- Does a byte stand for itself? -/
def plainB (c : UInt8) : Bool := decide (32 < c.toNat ∧ c.toNat < 127 ∧ c.toNat ≠ 37)
def pb (c : UInt8) : List UInt8 := if plainB c then [c] else [37, hexd (c.toNat / 16), hexd (c.toNat % 16)]
def prt (l : List UInt8) : List UInt8 := if l = [] then [45] else if l = [45] then [37, 50, 100] else l.flatMap pb
def digs : List UInt8 := [48, 49, 50, 51, 52, 53, 54, 55, 56, 57, 97, 98, 99, 100, 101, 102]

theorem pb_snoc (l : List UInt8) (k : Nat) (hk : k < l.length) : (l.take (k + 1)).flatMap pb = (l.take k).flatMap pb ++ pb l[k] := by
  rw [List.take_succ_eq_append_getElem hk, List.flatMap_append]; simp [List.flatMap_cons]
theorem pb_length (c : UInt8) : (pb c).length ≤ 3 ∧ 1 ≤ (pb c).length := by unfold pb; split <;> simp
theorem flat_length (l : List UInt8) : (l.flatMap pb).length ≤ 3 * l.length ∧ l.length ≤ (l.flatMap pb).length := by
  induction l with
  | nil => simp
  | cons c l ih => have := pb_length c; simp only [List.flatMap_cons, List.length_append, List.length_cons]; omega
theorem digs_at (n : Nat) (h : n < 16) : digs[n]? = some (hexd n) := by
  have : ∀ n : Fin 16, digs[n.val]? = some (hexd n.val) := by decide
  exact this ⟨n, h⟩
end Go.Proofs.Ytipmeclcamllbaa
