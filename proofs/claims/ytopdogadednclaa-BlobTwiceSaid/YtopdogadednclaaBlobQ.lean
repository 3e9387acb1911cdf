/-
  Bytes of files, in plain Lean: written twice, in two pieces; what is read of what was written.
-/
import Derived.Test.YtopdogadednclaaBlobP
namespace Go.Proofs.Ytopdogadednclaa

theorem wrl_twice (l d : List UInt8) (off : Nat) : wrl (wrl l off d) off d = wrl l off d := by
  apply List.ext_getElem?
  intro i
  have hl := wrl_length l off d
  rw [wrl_at (wrl l off d), wrl_at l]
  by_cases h1 : off ≤ i ∧ i < off + d.length
  · rw [if_pos h1, if_pos h1]
  · rw [if_neg h1, if_neg h1]
    by_cases hd : d = []
    · rw [hl, if_pos hd]
      by_cases h2 : i < l.length
      · rw [if_pos h2, if_pos h2]
      · rw [if_neg h2, if_neg h2]
    · rw [hl, if_neg hd]
      by_cases h2 : i < l.length
      · rw [if_pos (by omega), if_pos h2]
      · by_cases h3 : i < off + d.length
        · rw [if_pos (by omega), if_neg h2, if_pos ⟨hd, h3⟩]
        · rw [if_neg (by omega), if_neg h2, if_neg (by omega)]

theorem wrl_pieces (l d : List UInt8) (off k : Nat) (hk : k ≤ d.length) : wrl (wrl l off (d.take k)) (off + k) (d.drop k) = wrl l off d := by
  apply List.ext_getElem?
  intro i
  have hl := wrl_length l off (d.take k)
  have e1 : (d.take k).length = k := by rw [List.length_take]; omega
  have e2 : (d.drop k).length = d.length - k := List.length_drop
  have n1 : d.take k = [] ↔ k = 0 := by
    constructor
    · intro h; rw [h] at e1; simpa using e1.symm
    · intro h; rw [h, List.take_zero]
  have n2 : d.drop k = [] ↔ k = d.length := by
    constructor
    · intro h; rw [h] at e2; simp at e2; omega
    · intro h; rw [h, List.drop_length]
  have n3 : d = [] ↔ d.length = 0 := List.length_eq_zero_iff.symm
  rw [e1] at hl
  rw [wrl_at, wrl_at, wrl_at, hl, e1, e2]
  simp only [ne_eq, n1, n2, n3]
  by_cases h1 : off ≤ i ∧ i < off + d.length
  · rw [if_pos h1]
    by_cases h2 : off + k ≤ i
    · rw [if_pos (by omega), List.getElem?_drop]
      congr 1
      omega
    · rw [if_neg (by omega), if_pos (by split <;> omega), if_pos (by omega), List.getElem?_take_of_lt (by omega)]
  · rw [if_neg h1, if_neg (show ¬ (off + k ≤ i ∧ i < off + k + (d.length - k)) by omega), if_neg (show ¬ (off ≤ i ∧ i < off + k) by omega)]
    by_cases h2 : i < l.length
    · rw [if_pos h2, if_pos h2, if_pos (by split <;> omega)]
    · rw [if_neg h2, if_neg h2]
      by_cases h3 : i < off + d.length
      · by_cases h4 : d.length = 0
        · rw [if_neg (show ¬ (¬ d.length = 0 ∧ i < off + d.length) by omega)]
          by_cases h5 : k = 0
          · rw [if_neg (by rw [if_pos h5]; omega), if_neg (by omega)]
          · omega
        · rw [if_pos (show ¬ d.length = 0 ∧ i < off + d.length by omega)]
          by_cases h5 : k = 0
          · rw [if_neg (by rw [if_pos h5]; omega), if_pos (by omega)]
          · by_cases h6 : i < off + k
            · rw [if_pos (by rw [if_neg h5]; omega), if_pos (by omega)]
            · omega
      · rw [if_neg (show ¬ (¬ d.length = 0 ∧ i < off + d.length) by omega)]
        by_cases h5 : k = 0
        · rw [if_neg (by rw [if_pos h5]; omega), if_neg (by omega)]
        · rw [if_neg (by rw [if_neg h5]; omega), if_neg (by omega)]

/-- One byte read of what was written. -/
theorem wrl_one (l d : List UInt8) (off k : Nat) : ((wrl l off d).drop k).take 1 = if off ≤ k ∧ k < off + d.length then (d.drop (k - off)).take 1 else if k < l.length then (l.drop k).take 1 else if d ≠ [] ∧ k < off + d.length then [0] else [] := by
  have one : ∀ (m : List UInt8) (j : Nat), (m.drop j).take 1 = (m[j]?).toList := fun m j => by
    rcases h : m[j]? with _ | x
    · rw [List.drop_of_length_le (by rw [List.getElem?_eq_none_iff] at h; exact h)]; rfl
    · obtain ⟨hj, hx⟩ := List.getElem?_eq_some_iff.1 h
      rw [List.drop_eq_getElem_cons hj, hx]; rfl
  rw [one, wrl_at]
  split
  · rw [one]
  · split
    · rw [one]
    · split <;> rfl
end Go.Proofs.Ytopdogadednclaa
