/-
  Layer 2, in plain Lean: what is split piece by piece.
-/
import Derived.Test.YthfepdgamhidgaaLittleV
namespace Go.Proofs.Ythfepdgamhidgaa
set_option linter.unusedVariables false

theorem split_appN (m : Int) (c : List UInt8) : ∀ (n : Nat) (a : List UInt8), a.length ≤ n →
    ((splitL m a).err = 0 → splitL m (a ++ c) = ⟨(splitL m a).ms ++ (splitL m ((splitL m a).rest ++ c)).ms, (splitL m ((splitL m a).rest ++ c)).rest, (splitL m ((splitL m a).rest ++ c)).err⟩) ∧
    ((splitL m a).err ≠ 0 → splitL m (a ++ c) = splitL m a ∧ (splitL m a).rest = []) := by
  intro n
  induction n with
  | zero =>
    intro a ha
    have : a = [] := List.eq_nil_of_length_eq_zero (by omega)
    subst this
    rw [split_few (by simp)]
    exact ⟨fun _ => by simp, fun h => absurd rfl h⟩
  | succ n ih =>
    intro a ha
    by_cases h4 : a.length < 4
    · rw [split_few h4]
      exact ⟨fun _ => by simp, fun h => absurd rfl h⟩
    · have h4' : ¬ (a ++ c).length < 4 := by rw [List.length_append]; omega
      have ht : (a ++ c).take 4 = a.take 4 := List.take_append_of_le_length (by omega)
      by_cases h7 : num (a.take 4) < 7
      · rw [split_form h4 h7, split_form h4' (by rw [ht]; exact h7)]
        exact ⟨fun h => by simp at h, fun _ => ⟨rfl, rfl⟩⟩
      · by_cases hm : m < num (a.take 4)
        · rw [split_range h4 h7 hm, split_range h4' (by rw [ht]; exact h7) (by rw [ht]; exact hm)]
          exact ⟨fun h => by simp at h, fun _ => ⟨rfl, rfl⟩⟩
        · by_cases hl : a.length < num (a.take 4)
          · rw [split_part h4 h7 hm hl]
            exact ⟨fun _ => by simp, fun h => absurd rfl h⟩
          · have hl' : ¬ (a ++ c).length < num ((a ++ c).take 4) := by rw [ht, List.length_append]; omega
            have e1 := split_next (msize := m) h4 h7 hm hl
            have e2 := split_next (msize := m) h4' (by rw [ht]; exact h7) (by rw [ht]; exact hm) hl'
            rw [ht] at e2
            have hk : num (a.take 4) ≤ a.length := by omega
            rw [List.take_append_of_le_length hk, List.drop_append_of_le_length hk] at e2
            have hi := ih (a.drop (num (a.take 4))) (by rw [List.length_drop]; omega)
            rw [e1, e2]
            refine ⟨fun h => ?_, fun h => ?_⟩
            · rw [hi.1 h]
              simp
            · obtain ⟨h1, h2⟩ := hi.2 h
              rw [h1]
              exact ⟨rfl, h2⟩
theorem split_app0 (m : Int) (a c : List UInt8) (h : (splitL m a).err = 0) : splitL m (a ++ c) = ⟨(splitL m a).ms ++ (splitL m ((splitL m a).rest ++ c)).ms, (splitL m ((splitL m a).rest ++ c)).rest, (splitL m ((splitL m a).rest ++ c)).err⟩ := (split_appN m c _ a (Nat.le_refl _)).1 h
theorem split_appE (m : Int) (a c : List UInt8) (h : (splitL m a).err ≠ 0) : splitL m (a ++ c) = splitL m a ∧ (splitL m a).rest = [] := (split_appN m c _ a (Nat.le_refl _)).2 h
theorem split_restN : ∀ (n : Nat) (a : List UInt8), a.length ≤ n → (splitL 64 a).rest.length < 64 := by
  intro n
  induction n with
  | zero =>
    intro a ha
    rw [split_few (by omega)]
    show a.length < 64
    omega
  | succ n ih =>
    intro a ha
    by_cases h4 : a.length < 4
    · rw [split_few h4]
      show a.length < 64
      omega
    · by_cases h7 : num (a.take 4) < 7
      · rw [split_form h4 h7]; simp
      · by_cases hm : (64 : Int) < num (a.take 4)
        · rw [split_range h4 h7 hm]; simp
        · by_cases hl : a.length < num (a.take 4)
          · rw [split_part h4 h7 hm hl]
            show a.length < 64
            omega
          · rw [split_next h4 h7 hm hl]
            exact ih _ (by rw [List.length_drop]; omega)
theorem split_rest (a : List UInt8) : (splitL 64 a).rest.length < 64 := split_restN _ a (Nat.le_refl _)
/-- One more piece. -/
theorem split_piece (O : List UInt8) (at_ next : Nat) (h1 : at_ ≤ next) (h0 : (splitL 64 (O.take at_)).err = 0) :
    splitL 64 (O.take next) = ⟨(splitL 64 (O.take at_)).ms ++ (splitL 64 ((splitL 64 (O.take at_)).rest ++ (O.take next).drop at_)).ms, (splitL 64 ((splitL 64 (O.take at_)).rest ++ (O.take next).drop at_)).rest, (splitL 64 ((splitL 64 (O.take at_)).rest ++ (O.take next).drop at_)).err⟩ := by
  have e : O.take next = O.take at_ ++ (O.take next).drop at_ := by
    have := List.take_append_drop at_ (O.take next)
    rw [List.take_take, Nat.min_eq_left h1] at this
    exact this.symm
  conv => lhs; rw [e]
  exact split_app0 64 _ _ h0
theorem split_stop (O : List UInt8) (next : Nat) (h : (splitL 64 (O.take next)).err ≠ 0) : splitL 64 O = splitL 64 (O.take next) ∧ (splitL 64 (O.take next)).rest = [] := by
  have := split_appE 64 (O.take next) (O.drop next) h
  rw [List.take_append_drop] at this
  exact this
end Go.Proofs.Ythfepdgamhidgaa
