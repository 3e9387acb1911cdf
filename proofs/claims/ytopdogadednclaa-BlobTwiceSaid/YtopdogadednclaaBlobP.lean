/-
  Bytes of files, in plain Lean.
-/
namespace Go.Proofs.Ytopdogadednclaa

def padTo (l : List UInt8) (n : Nat) : List UInt8 := l ++ List.replicate (n - l.length) 0
def wrl (l : List UInt8) (off : Nat) (d : List UInt8) : List UInt8 := if d = [] then l else (padTo l (off + d.length)).take off ++ (d ++ (padTo l (off + d.length)).drop (off + d.length))

theorem padTo_at (l : List UInt8) (n i : Nat) : (padTo l n)[i]? = if i < l.length then l[i]? else if i < n then some 0 else none := by
  unfold padTo
  by_cases h : i < l.length
  · rw [if_pos h, List.getElem?_append_left h]
  · rw [if_neg h, List.getElem?_append_right (by omega), List.getElem?_replicate]
    split <;> split <;> first | rfl | omega
theorem padTo_length (l : List UInt8) (n : Nat) : (padTo l n).length = max l.length n := by
  unfold padTo; rw [List.length_append, List.length_replicate]; omega

theorem wrl_at (l : List UInt8) (off : Nat) (d : List UInt8) (i : Nat) :
    (wrl l off d)[i]? = if off ≤ i ∧ i < off + d.length then d[i - off]? else if i < l.length then l[i]? else if d ≠ [] ∧ i < off + d.length then some 0 else none := by
  unfold wrl
  by_cases hd : d = []
  · subst hd
    rw [if_pos rfl, if_neg (by rw [List.length_nil]; omega)]
    by_cases h : i < l.length
    · rw [if_pos h]
    · rw [if_neg h, if_neg (by simp)]; exact List.getElem?_eq_none (by omega)
  · rw [if_neg hd]
    have hdl : 0 < d.length := List.length_pos_iff.2 hd
    have hpl := padTo_length l (off + d.length)
    have htl : (List.take off (padTo l (off + d.length))).length = off := by rw [List.length_take, hpl]; omega
    by_cases h1 : i < off
    · rw [List.getElem?_append_left (by rw [htl]; exact h1), List.getElem?_take_of_lt h1, padTo_at, if_neg (show ¬ (off ≤ i ∧ i < off + d.length) by omega)]
      by_cases h2 : i < l.length
      · rw [if_pos h2, if_pos h2]
      · rw [if_neg h2, if_neg h2, if_pos (by omega), if_pos ⟨hd, by omega⟩]
    · rw [List.getElem?_append_right (by rw [htl]; omega), htl]
      by_cases h2 : i < off + d.length
      · rw [if_pos ⟨by omega, h2⟩, List.getElem?_append_left (by omega)]
      · rw [if_neg (show ¬ (off ≤ i ∧ i < off + d.length) by omega), List.getElem?_append_right (by omega), List.getElem?_drop, padTo_at]
        have e : off + d.length + (i - off - d.length) = i := by omega
        rw [e]
        by_cases h3 : i < l.length
        · rw [if_pos h3, if_pos h3]
        · rw [if_neg h3, if_neg h3, if_neg h2, if_neg (by omega)]

theorem wrl_length (l : List UInt8) (off : Nat) (d : List UInt8) : (wrl l off d).length = if d = [] then l.length else max l.length (off + d.length) := by
  unfold wrl
  by_cases hd : d = []
  · rw [if_pos hd, if_pos hd]
  · rw [if_neg hd, if_neg hd, List.length_append, List.length_append, List.length_take, List.length_drop, padTo_length]; omega

theorem wrl_nil (l : List UInt8) (off : Nat) : wrl l off [] = l := by unfold wrl; rw [if_pos rfl]

/-- One byte more. -/
theorem wrl_step (l : List UInt8) (off : Nat) (d : List UInt8) (x : UInt8) : (padTo (wrl l off d) (off + d.length + 1)).set (off + d.length) x = wrl l off (d ++ [x]) := by
  apply List.ext_getElem?
  intro i
  have hl := wrl_length l off d
  rw [List.getElem?_set, padTo_length, padTo_at, wrl_at, wrl_at, List.length_append, List.length_singleton]
  by_cases h0 : off + d.length = i
  · subst h0
    rw [if_pos rfl, if_pos (by omega), if_pos (by omega), Nat.add_sub_cancel_left, List.getElem?_append_right (by omega)]
    simp
  · rw [if_neg h0]
    have hne : d ++ [x] ≠ [] := by simp
    by_cases h1 : off ≤ i ∧ i < off + d.length
    · have hd : d ≠ [] := by intro e; subst e; simp at h1; omega
      rw [if_neg hd] at hl
      rw [if_pos (by rw [hl]; omega), if_pos h1, if_pos (by omega), List.getElem?_append_left (by omega)]
    · rw [if_neg h1, if_neg (show ¬ (off ≤ i ∧ i < off + (d.length + 1)) by omega)]
      by_cases h2 : i < l.length
      · rw [if_pos h2, if_pos h2, if_pos (by rw [hl]; split <;> omega)]
      · rw [if_neg h2, if_neg h2]
        by_cases h3 : i < off + (d.length + 1)
        · rw [if_pos (show d ++ [x] ≠ [] ∧ _ from ⟨hne, h3⟩)]
          by_cases h4 : d ≠ [] ∧ i < off + d.length
          · rw [if_pos h4]; split
            · rfl
            · rw [if_pos (by omega)]
          · rw [if_neg h4]
            split
            · rename_i hlt
              rw [hl] at hlt
              split at hlt
              · omega
              · rename_i hd; exact absurd ⟨hd, by omega⟩ h4
            · rw [if_pos (by omega)]
        · rw [if_neg (show ¬ (d ++ [x] ≠ [] ∧ i < off + (d.length + 1)) by omega)]
          rw [if_neg (show ¬ (d ≠ [] ∧ i < off + d.length) by omega), if_neg (show ¬ i < off + d.length + 1 by omega)]
          split <;> rfl

/-- The program's way: the bytes stretched, the data laid over them. -/
theorem wrl_of_stretch (l d m x : List UInt8) (off : Nat) (hd : d ≠ []) (hm : m = l.take (max l.length (off + d.length)) ++ List.replicate (max l.length (off + d.length) - l.length) 0)
    (dl : Nat) (hdl : d.length ≤ dl) (hx : x = m.take off ++ (d.take dl ++ m.drop (off + (d.take dl).length))) : x = wrl l off d := by
  rw [List.take_of_length_le hdl] at hx
  have e : m = padTo l (off + d.length) := by
    rw [hm, List.take_of_length_le (by omega)]
    unfold padTo
    congr 2
    omega
  rw [hx, e]
  unfold wrl
  rw [if_neg hd]

end Go.Proofs.Ytopdogadednclaa
