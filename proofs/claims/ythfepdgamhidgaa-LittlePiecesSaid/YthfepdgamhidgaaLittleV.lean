/-
  Layer 2, in plain Lean: messages split.
-/
import Derived.Test.YthfepdgamhidgaaLittleQ
namespace Go.Proofs.Ythfepdgamhidgaa
set_option linter.unusedVariables false

/-- The messages, what is left, the error. -/
structure Spl where
  ms : List (List UInt8)
  rest : List UInt8
  err : Int

/-- Split, in at most f steps. -/
def splitF (msize : Int) : Nat → List UInt8 → Spl
  | 0, b => ⟨[], b, 0⟩
  | f + 1, b =>
    if b.length < 4 then ⟨[], b, 0⟩
    else if num (b.take 4) < 7 then ⟨[], [], 2⟩
    else if msize < num (b.take 4) then ⟨[], [], 4⟩
    else if b.length < num (b.take 4) then ⟨[], b, 0⟩
    else ⟨b.take (num (b.take 4)) :: (splitF msize f (b.drop (num (b.take 4)))).ms, (splitF msize f (b.drop (num (b.take 4)))).rest, (splitF msize f (b.drop (num (b.take 4)))).err⟩
/-- Steps enough. -/
def splitL (msize : Int) (b : List UInt8) : Spl := splitF msize b.length b

theorem splitF_enough (msize : Int) : ∀ (f g : Nat) (b : List UInt8), b.length ≤ f → b.length ≤ g → splitF msize f b = splitF msize g b := by
  intro f
  induction f with
  | zero =>
    intro g b hf hg
    have : b = [] := List.eq_nil_of_length_eq_zero (by omega)
    subst this
    cases g <;> simp [splitF]
  | succ f ih =>
    intro g b hf hg
    cases g with
    | zero =>
      have : b = [] := List.eq_nil_of_length_eq_zero (by omega)
      subst this
      simp [splitF]
    | succ g =>
      simp only [splitF]
      split
      · rfl
      split
      · rfl
      split
      · rfl
      split
      · rfl
      rw [ih g _ (by rw [List.length_drop]; omega) (by rw [List.length_drop]; omega)]

section
variable {msize : Int} {b : List UInt8}
theorem split_few (h : b.length < 4) : splitL msize b = ⟨[], b, 0⟩ := by
  unfold splitL
  cases hl : b.length with
  | zero => rfl
  | succ n => rw [splitF, if_pos h]
theorem split_form (h : ¬ b.length < 4) (h7 : num (b.take 4) < 7) : splitL msize b = ⟨[], [], 2⟩ := by
  unfold splitL
  obtain ⟨n, hn⟩ : ∃ n, b.length = n + 1 := ⟨b.length - 1, by omega⟩
  rw [hn, splitF, if_neg h, if_pos h7]
theorem split_range (h : ¬ b.length < 4) (h7 : ¬ num (b.take 4) < 7) (hm : msize < num (b.take 4)) : splitL msize b = ⟨[], [], 4⟩ := by
  unfold splitL
  obtain ⟨n, hn⟩ : ∃ n, b.length = n + 1 := ⟨b.length - 1, by omega⟩
  rw [hn, splitF, if_neg h, if_neg h7, if_pos hm]
theorem split_part (h : ¬ b.length < 4) (h7 : ¬ num (b.take 4) < 7) (hm : ¬ msize < num (b.take 4)) (hl : b.length < num (b.take 4)) : splitL msize b = ⟨[], b, 0⟩ := by
  unfold splitL
  obtain ⟨n, hn⟩ : ∃ n, b.length = n + 1 := ⟨b.length - 1, by omega⟩
  rw [hn, splitF, if_neg h, if_neg h7, if_neg hm, if_pos hl]
theorem split_next (h : ¬ b.length < 4) (h7 : ¬ num (b.take 4) < 7) (hm : ¬ msize < num (b.take 4)) (hl : ¬ b.length < num (b.take 4)) :
    splitL msize b = ⟨b.take (num (b.take 4)) :: (splitL msize (b.drop (num (b.take 4)))).ms, (splitL msize (b.drop (num (b.take 4)))).rest, (splitL msize (b.drop (num (b.take 4)))).err⟩ := by
  have e : splitF msize (b.length - 1) (b.drop (num (b.take 4))) = splitL msize (b.drop (num (b.take 4))) := splitF_enough msize _ _ _ (by rw [List.length_drop]; omega) (Nat.le_refl _)
  unfold splitL at *
  obtain ⟨n, hn⟩ : ∃ n, b.length = n + 1 := ⟨b.length - 1, by omega⟩
  have hn' : b.length - 1 = n := by omega
  rw [hn'] at e
  rw [hn, splitF, if_neg h, if_neg h7, if_neg hm, if_neg hl, e]
end
end Go.Proofs.Ythfepdgamhidgaa
