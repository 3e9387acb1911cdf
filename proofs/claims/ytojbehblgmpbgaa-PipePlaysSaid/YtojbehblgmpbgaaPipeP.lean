/-
  Layer 5, without the program: texts that are eaten byte by byte.
-/
import Derived.Test.YtojbehblgmpbgaaClone
namespace Go.Proofs.Ytojbehblgmpbgaa
set_option linter.unusedVariables false

/-- The texts of which bytes are left: what is left of the first one, and the others. -/
def absL (f : List UInt8) (T : List (List UInt8)) : List (List UInt8) := if f = [] then T else f :: T
/-- n bytes are eaten. -/
def eat : Nat → List (List UInt8) → List (List UInt8)
  | 0, L => L
  | _ + 1, [] => []
  | n + 1, [] :: L => eat (n + 1) L
  | n + 1, (_ :: t) :: L => eat n (absL t L)
/-- How many bytes are left. -/
def total (L : List (List UInt8)) : Nat := L.flatten.length
/-- Texts that may wait. -/
def GoodL (L : List (List UInt8)) : Prop := L.length ≤ 64 ∧ ∀ l ∈ L, l ≠ [] ∧ l.length ≤ 1000

theorem total_cons (l : List UInt8) (L : List (List UInt8)) : total (l :: L) = l.length + total L := by simp [total]
theorem total_nil : total [] = 0 := rfl
theorem total_absL (f : List UInt8) (T : List (List UInt8)) : total (absL f T) = f.length + total T := by
  unfold absL
  split
  · subst_vars; simp
  · rw [total_cons]
theorem flat_absL (f : List UInt8) (T : List (List UInt8)) : (absL f T).flatten = f ++ T.flatten := by
  unfold absL
  split
  · subst_vars; simp
  · simp
theorem total_le : ∀ (L : List (List UInt8)), (∀ l ∈ L, l.length ≤ 1000) → total L ≤ 1000 * L.length
  | [], _ => by simp [total]
  | l :: L, h => by
    rw [total_cons, List.length_cons]
    have h1 := h l (by simp)
    have h2 := total_le L (fun x hx => h x (by simp [hx]))
    omega
theorem GoodL.total_le {L : List (List UInt8)} (h : GoodL L) : total L ≤ 64000 := by
  have := Go.Proofs.Ytojbehblgmpbgaa.total_le L (fun l hl => (h.2 l hl).2)
  have := h.1
  omega
theorem GoodL.nil : GoodL [] := ⟨by simp, by simp⟩
theorem GoodL.absL {f : List UInt8} {T : List (List UInt8)} (h : GoodL (absL f T)) : (∀ l ∈ T, l ≠ [] ∧ l.length ≤ 1000) ∧ f.length ≤ 1000 ∧ T.length ≤ 64 := by
  unfold Go.Proofs.Ytojbehblgmpbgaa.absL at h
  split at h
  · subst_vars; exact ⟨h.2, by simp, h.1⟩
  · have h1 := h.1
    simp at h1
    exact ⟨fun l hl => h.2 l (by simp [hl]), (h.2 f (by simp)).2, by omega⟩
theorem GoodL.empty {L : List (List UInt8)} (h : GoodL L) (h0 : total L = 0) : L = [] := by
  cases L with
  | nil => rfl
  | cons l L =>
    rw [total_cons] at h0
    exact absurd (List.eq_nil_of_length_eq_zero (by omega)) (h.2 l (by simp)).1

theorem eat_zero (L : List (List UInt8)) : eat 0 L = L := by cases L <;> simp [eat]
theorem eat_nil (n : Nat) : eat n [] = [] := by cases n <;> simp [eat]
theorem eat_cons (n : Nat) (x : UInt8) (t : List UInt8) (L : List (List UInt8)) : eat (n + 1) ((x :: t) :: L) = eat n (absL t L) := by simp [eat]
/-- A part of the first text. -/
theorem eat_part : ∀ (k : Nat) (f : List UInt8) (T : List (List UInt8)), f ≠ [] → k ≤ f.length → eat k (f :: T) = absL (f.drop k) T
  | 0, f, T, hf, _ => by simp [eat_zero, absL, hf]
  | k + 1, [], T, hf, _ => absurd rfl hf
  | k + 1, x :: t, T, hf, hk => by
    rw [eat_cons, List.drop_succ_cons]
    by_cases ht : t = []
    · subst ht
      have : k = 0 := by simp at hk; omega
      subst this
      simp [absL, eat_zero]
    · have := eat_part k t T ht (by simpa using hk)
      rw [show absL t T = t :: T by simp [absL, ht]]
      exact this
theorem eat_add : ∀ (a b : Nat) (L : List (List UInt8)), (∀ l ∈ L, l ≠ []) → eat (a + b) L = eat b (eat a L)
  | 0, b, L, _ => by rw [Nat.zero_add, eat_zero]
  | a + 1, b, [], _ => by rw [eat_nil, eat_nil, eat_nil]
  | a + 1, b, [] :: L, h => absurd rfl (h [] (by simp))
  | a + 1, b, (x :: t) :: L, h => by
    rw [show a + 1 + b = (a + b) + 1 by omega, eat_cons, eat_cons]
    refine eat_add a b _ (fun l hl => ?_)
    unfold absL at hl
    split at hl
    · exact h l (by simp [hl])
    · rcases List.mem_cons.1 hl with rfl | hl
      · assumption
      · exact h l (by simp [hl])
theorem eat_good : ∀ (n : Nat) (L : List (List UInt8)), GoodL L → GoodL (eat n L) ∧ (eat n L).length ≤ L.length
  | 0, L, h => by rw [eat_zero]; exact ⟨h, Nat.le_refl _⟩
  | n + 1, [], h => by rw [eat_nil]; exact ⟨h, Nat.le_refl _⟩
  | n + 1, [] :: L, h => absurd rfl (h.2 [] (by simp)).1
  | n + 1, (x :: t) :: L, h => by
    rw [eat_cons]
    have h1 : GoodL (absL t L) ∧ (absL t L).length ≤ L.length + 1 := by
      have hl := h.1
      simp at hl
      unfold absL
      split
      · exact ⟨⟨by omega, fun l hl => h.2 l (by simp [hl])⟩, by omega⟩
      · refine ⟨⟨by simpa using hl, fun l hl => ?_⟩, by simp⟩
        rcases List.mem_cons.1 hl with rfl | hl
        · have := (h.2 (x :: l) (by simp)).2
          simp at this
          exact ⟨by assumption, by omega⟩
        · exact h.2 l (by simp [hl])
    have h2 := eat_good n _ h1.1
    exact ⟨h2.1, by have := h2.2; have := h1.2; simp; omega⟩
theorem eat_flat : ∀ (n : Nat) (L : List (List UInt8)), (eat n L).flatten = L.flatten.drop n
  | 0, L => by simp [eat_zero]
  | n + 1, [] => by simp [eat_nil]
  | n + 1, [] :: L => by
    have := eat_flat (n + 1) L
    simpa [eat] using this
  | n + 1, (x :: t) :: L => by
    rw [eat_cons, eat_flat n, flat_absL]
    simp
termination_by n L => (n, L.length)
theorem eat_total (n : Nat) (L : List (List UInt8)) : total (eat n L) = total L - n := by
  unfold total
  rw [eat_flat]; simp
end Go.Proofs.Ytojbehblgmpbgaa
