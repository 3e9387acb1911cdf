/-
  Prints read back, in plain Lean.
-/
import Derived.Test.YtipmeclcamllbaaNameP
namespace Go.Proofs.Ytipmeclcamllbaa

def unhex (d : UInt8) : Option Nat := if 48 ≤ d.toNat ∧ d.toNat ≤ 57 then some (d.toNat - 48) else if 97 ≤ d.toNat ∧ d.toNat ≤ 102 then some (d.toNat - 87) else none

def dec : List UInt8 → Option (List UInt8)
  | [] => some []
  | [c] => if c = 37 then none else some [c]
  | [c, d] => if c = 37 then none else if d = 37 then none else some [c, d]
  | c :: h :: l :: rest =>
    if c = 37 then
      match unhex h, unhex l with
      | some a, some b => (dec rest).map (UInt8.ofNat (a * 16 + b) :: ·)
      | _, _ => none
    else (dec (h :: l :: rest)).map (c :: ·)

theorem dec_cons (c : UInt8) (t : List UInt8) (hc : c ≠ 37) : dec (c :: t) = (dec t).map (c :: ·) := by
  match t with
  | [] => simp [dec, hc]
  | [d] => by_cases hd : d = 37 <;> simp [dec, hc, hd]
  | h :: l :: rest => simp only [dec, if_neg hc]
theorem dec_pct (h l : UInt8) (rest : List UInt8) : dec (37 :: h :: l :: rest) = match unhex h, unhex l with | some a, some b => (dec rest).map (UInt8.ofNat (a * 16 + b) :: ·) | _, _ => none := by
  simp only [dec, if_true]
theorem dec_short (t : List UInt8) (h : t.length < 2) : dec (37 :: t) = none := by
  match t, h with
  | [], _ => rfl
  | [d], _ => rfl

theorem unhex_hexd (n : Nat) (h : n < 16) : unhex (hexd n) = some n := by
  have : ∀ n : Fin 16, unhex (hexd n.val) = some n.val := by decide
  exact this ⟨n, h⟩
theorem plain_ne {c : UInt8} (h : plainB c = true) : c ≠ 37 := by
  rintro rfl
  revert h; decide

theorem dec_pb (c : UInt8) (t : List UInt8) : dec (pb c ++ t) = (dec t).map (c :: ·) := by
  unfold pb
  cases h : plainB c with
  | true => simp only [if_true, List.singleton_append]; exact dec_cons c t (plain_ne h)
  | false =>
    simp only [Bool.false_eq_true, if_false, List.cons_append, List.nil_append]
    have hc := c.toNat_lt
    rw [dec_pct, unhex_hexd _ (by omega), unhex_hexd _ (by omega)]
    simp only
    have : UInt8.ofNat (c.toNat / 16 * 16 + c.toNat % 16) = c := by
      rw [Nat.div_add_mod']; simp
    rw [this]
theorem dec_flat_app (l t : List UInt8) : dec (l.flatMap pb ++ t) = (dec t).map (l ++ ·) := by
  induction l with
  | nil => simp
  | cons c l ih =>
    rw [List.flatMap_cons, List.append_assoc, dec_pb, ih]
    cases dec t <;> simp
theorem dec_flat (l : List UInt8) : dec (l.flatMap pb) = some l := by
  have := dec_flat_app l []
  simpa [dec] using this
theorem flat_inj {a b : List UInt8} (h : a.flatMap pb = b.flatMap pb) : a = b := by
  have h1 := dec_flat a
  rw [h, dec_flat] at h1
  exact (Option.some.inj h1).symm

theorem prt_inj {a b : List UInt8} (h : prt a = prt b) : a = b := by
  have e45 : ([45] : List UInt8).flatMap pb = [45] := by decide
  have e0 : dec [37, 50, 100] = some [45] := by decide
  have key : ∀ l : List UInt8, l ≠ [] → l ≠ [45] → prt l = l.flatMap pb := fun l h1 h2 => by unfold prt; rw [if_neg h1, if_neg h2]
  have p0 : prt [] = [45] := rfl
  have p1 : prt [45] = [37, 50, 100] := by decide
  have q0 : ∀ l : List UInt8, l.flatMap pb = [45] → l = [45] := fun l hl => flat_inj (hl.trans e45.symm)
  have q1 : ∀ l : List UInt8, l.flatMap pb = [37, 50, 100] → l = [45] := fun l hl => by
    have := dec_flat l; rw [hl, e0] at this; exact (Option.some.inj this).symm
  by_cases a0 : a = [] <;> by_cases a1 : a = [45] <;> by_cases b0 : b = [] <;> by_cases b1 : b = [45]
  all_goals first
    | (rw [a0, b0]; done)
    | (rw [a1, b1]; done)
    | (rw [key a a0 a1, key b b0 b1] at h; exact flat_inj h)
    | (subst a0; subst b1; revert h; decide)
    | (subst a1; subst b0; revert h; decide)
    | (subst a0; rw [p0, key b b0 b1] at h; exact absurd (q0 b h.symm) b1)
    | (subst b0; rw [p0, key a a0 a1] at h; exact absurd (q0 a h) a1)
    | (subst a1; rw [p1, key b b0 b1] at h; exact absurd (q1 b h.symm) b1)
    | (subst b1; rw [p1, key a a0 a1] at h; exact absurd (q1 a h) a1)
    | (subst a0; cases a1)
    | (subst b0; cases b1)

theorem prt_pos (l : List UInt8) : 0 < (prt l).length := by
  unfold prt
  split
  · decide
  · split
    · decide
    · rename_i h _
      have := (flat_length l).2
      have : 0 < l.length := List.length_pos_iff.2 h
      omega
theorem prt_le (l : List UInt8) : (prt l).length ≤ 3 * l.length + 3 := by
  unfold prt
  split
  · simp
  · split
    · simp
    · have := (flat_length l).1; omega

/-- What scanning answers. -/
def scanR (s : List UInt8) : Option (List UInt8) := if s = [45] then some [] else match dec s with | none => none | some b => if prt b = s then some b else none

theorem scan_prt (l : List UInt8) : scanR (prt l) = some l := by
  unfold scanR
  by_cases h0 : l = []
  · subst h0; rfl
  · by_cases h1 : l = [45]
    · subst h1; decide
    · have hp : prt l = l.flatMap pb := by unfold prt; rw [if_neg h0, if_neg h1]
      have hn : prt l ≠ [45] := by
        intro e
        have : prt l = prt [] := e
        exact h0 (prt_inj this)
      rw [if_neg hn]
      have hd : dec (prt l) = some l := by rw [hp]; exact dec_flat l
      rw [hd]
      simp
end Go.Proofs.Ytipmeclcamllbaa
