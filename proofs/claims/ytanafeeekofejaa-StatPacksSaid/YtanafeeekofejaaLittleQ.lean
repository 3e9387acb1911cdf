/-
  Layer 2, in plain Lean: what is laid is read as it was.
-/
import Derived.Test.YtanafeeekofejaaLittleP
namespace Go.Proofs.Ytanafeeekofejaa
set_option linter.unusedVariables false

theorem nxB_app (a r : List UInt8) (k : Nat) (h : a.length = k) : nxB (a ++ r) 0 k = a := by
  unfold nxB; rw [if_pos ⟨rfl, by simp; omega⟩, List.take_left' h]
theorem nxL_app (a r : List UInt8) (k : Nat) (h : a.length = k) : nxL (a ++ r) 0 k = r := by
  unfold nxL; rw [if_pos ⟨rfl, by simp; omega⟩, List.drop_left' h]
theorem nxE_app (a r : List UInt8) (k : Nat) (h : a.length = k) : nxE (a ++ r) 0 k = 0 := by
  unfold nxE; rw [if_pos rfl, if_pos (by simp; omega)]
theorem num_le_small (k n : Nat) (h : n < 256 ^ k) : num (le k n) = n := by rw [num_le, Nat.mod_eq_of_lt h]
/-- A text, as it is laid. -/
theorem tx_app (s r : List UInt8) (h : s.length < 65536) : txB (le 2 s.length ++ (s ++ r)) 0 = s ∧ txL (le 2 s.length ++ (s ++ r)) 0 = r ∧ txE (le 2 s.length ++ (s ++ r)) 0 = 0 := by
  unfold txB txL txE
  rw [nxB_app _ _ 2 (le_length _ _), nxL_app _ _ 2 (le_length _ _), nxE_app _ _ 2 (le_length _ _), num_le_small 2 _ (by omega)]
  exact ⟨nxB_app _ _ _ rfl, nxL_app _ _ _ rfl, nxE_app _ _ _ rfl⟩
/-- Data, as they are laid. -/
theorem dt_app (s r : List UInt8) (most : Int) (h : s.length < 4294967296) (hm : (s.length : Int) ≤ most) : dtB (le 4 s.length ++ (s ++ r)) 0 most = s ∧ dtL (le 4 s.length ++ (s ++ r)) 0 most = r ∧ dtE (le 4 s.length ++ (s ++ r)) 0 most = 0 := by
  have hb : ¬ dtBad (le 4 s.length ++ (s ++ r)) 0 most := by
    unfold dtBad
    rw [nxB_app _ _ 4 (le_length _ _), num_le_small 4 _ (by omega)]
    omega
  unfold dtB dtL dtE
  rw [if_neg hb, if_neg hb, if_neg hb, nxB_app _ _ 4 (le_length _ _), nxL_app _ _ 4 (le_length _ _), nxE_app _ _ 4 (le_length _ _), num_le_small 4 _ (by omega)]
  exact ⟨nxB_app _ _ _ rfl, nxL_app _ _ _ rfl, nxE_app _ _ _ rfl⟩

/-- A number and a text, laid in every way. -/
def recL (x : Nat) (s : List UInt8) : List UInt8 := le 8 x ++ (le 2 s.length ++ (s ++ (le 2 x ++ (le 4 s.length ++ (s ++ (le 1 x ++ le 4 x))))))
theorem recL_length (x : Nat) (s : List UInt8) : (recL x s).length = 21 + 2 * s.length := by simp [recL, le_length]; omega
theorem recL_app (x : Nat) (s r : List UInt8) : recL x s ++ r = le 8 x ++ (le 2 s.length ++ (s ++ (le 2 x ++ (le 4 s.length ++ (s ++ (le 1 x ++ (le 4 x ++ r))))))) := by simp [recL, List.append_assoc]
/-- Numbers j, j + 1, .. j + d - 1. -/
def fromL (X : Nat → Nat) (T : Nat → List UInt8) : Nat → Nat → List UInt8
  | _, 0 => []
  | j, d + 1 => recL (X j) (T j) ++ fromL X T (j + 1) d
theorem fromL_snoc (X : Nat → Nat) (T : Nat → List UInt8) (d : Nat) : ∀ j, fromL X T j (d + 1) = fromL X T j d ++ recL (X (j + d)) (T (j + d)) := by
  induction d with
  | zero => intro j; simp [fromL]
  | succ d ih =>
    intro j
    rw [fromL, ih (j + 1), fromL, List.append_assoc, show j + 1 + d = j + (d + 1) by omega]
theorem fromL_length (X : Nat → Nat) (T : Nat → List UInt8) (hT : ∀ j, (T j).length ≤ 20) (d : Nat) : ∀ j, (fromL X T j d).length ≤ 61 * d := by
  induction d with
  | zero => intro j; simp [fromL]
  | succ d ih =>
    intro j
    rw [fromL, List.length_append, recL_length]
    have := ih (j + 1)
    have := hT j
    omega
end Go.Proofs.Ytanafeeekofejaa
