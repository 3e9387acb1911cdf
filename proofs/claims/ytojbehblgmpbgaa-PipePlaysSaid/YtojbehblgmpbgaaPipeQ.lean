/-
  Layer 5, without the program: all pieces.
-/
import Derived.Test.YtojbehblgmpbgaaPipeP
import Derived.Test.YtojbehblgmpbgaaPipeB
namespace Go.Proofs.Ytojbehblgmpbgaa
set_option linter.unusedVariables false

def takeN (ns : List Int) (at_ : Nat) (L : List (List UInt8)) : Nat := min (ns.getD at_ 0).toNat (total L)
def pieceOf (ns : List Int) (at_ : Nat) (L : List (List UInt8)) : List UInt8 := L.flatten.take (takeN ns at_ L)
def nextL (ns : List Int) (at_ : Nat) (L : List (List UInt8)) : List (List UInt8) := eat (takeN ns at_ L) L
def nextAt (ns : List Int) (at_ : Nat) : Nat := (at_ + 1) % ns.length
/-- All pieces, of so many at most. -/
def pieces : Nat → List Int → Nat → List (List UInt8) → List (List UInt8)
  | 0, _, _, _ => []
  | f + 1, ns, at_, L => if total L = 0 then [] else pieceOf ns at_ L :: pieces f ns (nextAt ns at_) (nextL ns at_ L)
/-- There are so many at most. -/
def Ends : Nat → List Int → Nat → List (List UInt8) → Prop
  | 0, _, _, L => total L = 0
  | f + 1, ns, at_, L => total L = 0 ∨ Ends f ns (nextAt ns at_) (nextL ns at_ L)
theorem pieces_len : ∀ (f : Nat) (ns : List Int) (at_ : Nat) (L : List (List UInt8)), (pieces f ns at_ L).length ≤ f
  | 0, _, _, _ => by simp [pieces]
  | f + 1, ns, at_, L => by
    unfold pieces
    split
    · simp
    · have := pieces_len f ns (nextAt ns at_) (nextL ns at_ L)
      simpa using this
theorem pieces_zero (f : Nat) (ns : List Int) (at_ : Nat) (L : List (List UInt8)) (h : total L = 0) : pieces f ns at_ L = [] := by
  cases f with
  | zero => rfl
  | succ f => unfold pieces; rw [if_pos h]
theorem nextL_total (ns : List Int) (at_ : Nat) (L : List (List UInt8)) : total (nextL ns at_ L) = total L - takeN ns at_ L := eat_total _ _
theorem nextL_good {ns : List Int} {at_ : Nat} {L : List (List UInt8)} (h : GoodL L) : GoodL (nextL ns at_ L) := (eat_good _ _ h).1
theorem nextAt_lt {ns : List Int} (at_ : Nat) (h : 0 < ns.length) : nextAt ns at_ < ns.length := Nat.mod_lt _ h
/-- All bytes are told. -/
theorem pieces_flat : ∀ (f : Nat) (ns : List Int) (at_ : Nat) (L : List (List UInt8)), Ends f ns at_ L → (pieces f ns at_ L).flatten = L.flatten
  | 0, ns, at_, L, h => by
    have h0 : L.flatten = [] := List.eq_nil_of_length_eq_zero h
    rw [h0]; rfl
  | f + 1, ns, at_, L, h => by
    unfold pieces
    split
    · rename_i h0
      have h0 : L.flatten = [] := List.eq_nil_of_length_eq_zero h0
      rw [h0]; rfl
    · rename_i h0
      rcases h with h | h
      · exact absurd h h0
      · rw [List.flatten_cons, pieces_flat f _ _ _ h]
        unfold pieceOf nextL
        rw [eat_flat, List.take_append_drop]
theorem ends_of {ns : List Int} (hM : MayS ns) : ∃ p, p < ns.length ∧ 0 < ns.getD p 0 := by
  obtain ⟨z, hz, hp⟩ := hM.2
  obtain ⟨i, hi, e⟩ := List.mem_iff_getElem.1 hz
  exact ⟨i, hi, by rw [List.getD_eq_getElem?_getD, List.getElem?_eq_getElem hi]; simp; omega⟩
theorem ends_from {ns : List Int} {p : Nat} (hp : p < ns.length) (hpos : 0 < ns.getD p 0) : ∀ (N d at_ : Nat) (L : List (List UInt8)), total L = N → at_ < ns.length → d < ns.length → (at_ + d) % ns.length = p → ∃ f, f ≤ N * ns.length + d ∧ Ends f ns at_ L := by
  intro N
  induction N using Nat.strongRecOn with
  | ind N ih =>
    intro d
    induction d with
    | zero =>
      intro at_ L hN hat hd hmod
      have hap : at_ = p := by rw [← hmod, Nat.add_zero, Nat.mod_eq_of_lt hat]
      by_cases h0 : total L = 0
      · exact ⟨0, by omega, h0⟩
      · have ht : 0 < takeN ns at_ L := by unfold takeN; rw [hap]; omega
        have hN' : total (nextL ns at_ L) = N - takeN ns at_ L := by rw [nextL_total, hN]
        have hlt : N - takeN ns at_ L < N := by omega
        obtain ⟨d', hd', hm'⟩ : ∃ d', d' < ns.length ∧ (nextAt ns at_ + d') % ns.length = p := by
          refine ⟨ns.length - 1, by omega, ?_⟩
          unfold nextAt
          rw [Nat.mod_add_mod, show at_ + 1 + (ns.length - 1) = at_ + ns.length by omega, Nat.add_mod_right, Nat.mod_eq_of_lt hat, hap]
        obtain ⟨f, hf, he⟩ := ih (N - takeN ns at_ L) hlt d' (nextAt ns at_) (nextL ns at_ L) hN' (nextAt_lt _ (by omega)) hd' hm'
        refine ⟨f + 1, ?_, .inr he⟩
        have h1 : (N - takeN ns at_ L) * ns.length + ns.length ≤ N * ns.length := by
          have : (N - takeN ns at_ L + 1) * ns.length ≤ N * ns.length := Nat.mul_le_mul_right _ (by omega)
          rw [Nat.add_mul, Nat.one_mul] at this
          exact this
        omega
    | succ d ihd =>
      intro at_ L hN hat hd hmod
      by_cases h0 : total L = 0
      · exact ⟨0, by omega, h0⟩
      · have hN' : total (nextL ns at_ L) = N - takeN ns at_ L := by rw [nextL_total, hN]
        have hmod' : (nextAt ns at_ + d) % ns.length = p := by
          unfold nextAt
          rw [Nat.mod_add_mod, ← hmod]
          congr 1
          omega
        by_cases ht : takeN ns at_ L = 0
        · obtain ⟨f, hf, he⟩ := ihd (nextAt ns at_) (nextL ns at_ L) (by omega) (nextAt_lt _ (by omega)) (by omega) hmod'
          exact ⟨f + 1, by omega, .inr he⟩
        · obtain ⟨f, hf, he⟩ := ih (N - takeN ns at_ L) (by have : takeN ns at_ L ≤ total L := by unfold takeN; omega
                                                            omega) d (nextAt ns at_) (nextL ns at_ L) hN' (nextAt_lt _ (by omega)) (by omega) hmod'
          refine ⟨f + 1, ?_, .inr he⟩
          have h1 : (N - takeN ns at_ L) * ns.length ≤ N * ns.length := Nat.mul_le_mul_right _ (by omega)
          omega
/-- A script that may be: all bytes come up. -/
theorem ends_may {ns : List Int} (hM : MayS ns) (at_ : Nat) (hat : at_ < ns.length) (L : List (List UInt8)) : ∃ f, f ≤ total L * ns.length + ns.length ∧ Ends f ns at_ L := by
  obtain ⟨p, hp, hpos⟩ := ends_of hM
  obtain ⟨d, hd, hm⟩ : ∃ d, d < ns.length ∧ (at_ + d) % ns.length = p := by
    refine ⟨(p + ns.length - at_) % ns.length, Nat.mod_lt _ (by omega), ?_⟩
    rw [Nat.add_mod_mod, show at_ + (p + ns.length - at_) = p + ns.length by omega, Nat.add_mod_right, Nat.mod_eq_of_lt hp]
  obtain ⟨f, hf, he⟩ := ends_from hp hpos (total L) d at_ L rfl hat hd hm
  exact ⟨f, by omega, he⟩
end Go.Proofs.Ytojbehblgmpbgaa
