/-
  Package name and its reference: Check; the reference's Of.
-/
import Derived.Test.YtipmeclcamllbaaNameC
import Derived.Test.YtipmeclcamllbaaVals
namespace Go.Proofs.Ytipmeclcamllbaa
open Go.RowKit
set_option linter.unusedVariables false

/-- How many steps, and the error. -/
def checkN (ls : List (List UInt8)) : Nat := if 8 < ls.length then 8 else (ls.takeWhile isStep).length
def checkE (ls : List (List UInt8)) : Int := if 8 < ls.length then 4 else if (ls.takeWhile isStep).length = ls.length then 0 else 16
def CheckPost (w : World) (ls : List (List UInt8)) (e : Ending) (w' : World) : Prop :=
  ∃ (k : Nat) (E : Int), Hid (k = checkN ls) ∧ Hid (E = checkE ls) ∧ e = .returned (.tuple #[.int .i64 k, .int .i64 E]) ∧ w = w'

theorem tw_stop (ls : List (List UInt8)) (k : Nat) (hk : k < ls.length) (h1 : (ls.take k).all isStep = true) (h2 : isStep ls[k] = false) : (ls.takeWhile isStep).length = k := by
  induction ls generalizing k with
  | nil => simp at hk
  | cons a r ih =>
    cases k with
    | zero => simp at h2; simp [List.takeWhile_cons, h2]
    | succ k =>
      simp at h1 h2 hk
      rw [List.takeWhile_cons, if_pos (by simpa using h1.1)]
      simp only [List.length_cons]
      rw [ih k hk (by simpa using h1.2) h2]
theorem tw_all (ls : List (List UInt8)) (h : ls.all isStep = true) : (ls.takeWhile isStep).length = ls.length := by
  induction ls with
  | nil => rfl
  | cons a r ih =>
    simp at h
    rw [List.takeWhile_cons, if_pos h.1]
    simp only [List.length_cons]
    rw [ih (by simpa using h.2)]

def CheckRel (ls : List (List UInt8)) (i : Value) : Prop := ∃ k : Nat, k ≤ ls.length ∧ i = .int .i64 k ∧ (ls.take k).all isStep = true

theorem all_snoc (ls : List (List UInt8)) (k : Nat) (hk : k < ls.length) (h1 : (ls.take k).all isStep = true) (h2 : isStep ls[k] = true) : (ls.take (k + 1)).all isStep = true := by
  rw [List.take_succ_eq_append_getElem hk, List.all_append, h1]; simp [h2]

set_option maxHeartbeats 1000000 in
theorem check_any (A : Option Addr) (n c : Nat) (ls : List (List UInt8)) (w : World) (h : RdV w w.heap.size A n (sv ls)) (hl : ∀ l ∈ ls, l.length ≤ 65536) (hn : n ≤ 65536) :
    Calls Try.prog 18 #[.slice A n c] w (CheckPost w ls) := by
  have hln : ls.length = n := by have := h.len; rwa [sv_length] at this
  have HLN := Lib.hid hln
  by_cases h8 : 8 < n
  · have e1 : checkN ls = 8 := by unfold checkN; rw [hln, if_pos h8]
    have e2 : checkE ls = 4 := by unfold checkE; rw [hln, if_pos h8]
    have E1 := Lib.hid e1
    have E2 := Lib.hid e2
    clear e1 e2 hln
    go_enter Try.func18, Try.ntmps18
    go_wp2
    go_ret2
    exact ⟨8, 4, E1.out.symm, E2.out.symm, rfl, rfl⟩
  · clear hln
    go_enter Try.func18, Try.ntmps18
    go_wp2
    go_loop [11] (fun i => CheckRel ls i) (fun i => n - (intOf i).toNat)
    case atStart => exact ⟨0, Nat.zero_le _, rfl, rfl⟩
    case round =>
      obtain ⟨k, hk, rfl, hall⟩ := hrel
      have hkn : k ≤ n := by have := HLN.out; omega
      by_cases hlt : k < n
      · obtain ⟨b, off, u, rfl, _, hu, hcell⟩ := h.at_ hlt
        have hkl : k < ls.length := by have := HLN.out; omega
        rw [sv_at, List.getElem?_eq_getElem hkl] at hu
        obtain rfl : Value.string (st ls[k]) = u := by simpa using hu
        have hsl := hl ls[k] (List.getElem_mem hkl)
        have HS : Hid (isStep ls[k] = true → (ls.take (k + 1)).all isStep = true) := all_snoc ls k hkl hall
        have HT : Hid (isStep ls[k] = false → (ls.takeWhile isStep).length = k) := tw_stop ls k hkl hall
        generalize ls[k] = x at hcell hsl HS HT
        clear hu
        go_wp2_with fail
        refine (step_any x _ hsl).mono ?_
        rintro e w' ⟨rfl, rfl⟩
        cases hx : isStep x with
        | true =>
          go_wp2
          go_round
          case rel => exact ⟨k + 1, by omega, by go_num, HS.out hx⟩
          case measure => simp [intOf]; omega
        | false =>
          have ht := HT.out hx
          have E1 : Hid (checkN ls = k) := by unfold checkN; rw [HLN.out, if_neg h8]; exact ht
          have E2 : Hid (checkE ls = 16) := by unfold checkE; rw [HLN.out, if_neg h8, if_neg (by omega)]; rfl
          clear ht HT HS
          go_wp2
          go_ret2
          exact ⟨k, 16, E1.out.symm, E2.out.symm, rfl, rfl⟩
      · have hk2 : ls.take k = ls := List.take_of_length_le (by have := HLN.out; omega)
        rw [hk2] at hall
        have ht := tw_all ls hall
        have E1 : Hid (checkN ls = n) := by unfold checkN; rw [HLN.out, if_neg h8, ht, HLN.out]; rfl
        have E2 : Hid (checkE ls = 0) := by unfold checkE; rw [HLN.out, if_neg h8, if_pos (ht.trans HLN.out)]; rfl
        have hd : decide (k < n) = false := by simp; omega
        clear ht hall hk2
        go_wp2
        go_ret2
        exact ⟨n, 0, E1.out.symm, E2.out.symm, rfl, rfl⟩
set_option maxHeartbeats 1000000 in
theorem refCheck_any (A : Option Addr) (n c : Nat) (ls : List (List UInt8)) (w : World) (h : RdV w w.heap.size A n (sv ls)) (hl : ∀ l ∈ ls, l.length ≤ 65536) (hn : n ≤ 65536) :
    Calls Try.prog 19 #[.slice A n c] w (CheckPost w ls) := by
  have hln : ls.length = n := by have := h.len; rwa [sv_length] at this
  have HLN := Lib.hid hln
  by_cases h8 : 8 < n
  · have e1 : checkN ls = 8 := by unfold checkN; rw [hln, if_pos h8]
    have e2 : checkE ls = 4 := by unfold checkE; rw [hln, if_pos h8]
    have E1 := Lib.hid e1
    have E2 := Lib.hid e2
    clear e1 e2 hln
    go_enter Try.func19, Try.ntmps19
    go_wp2
    go_ret2
    exact ⟨8, 4, E1.out.symm, E2.out.symm, rfl, rfl⟩
  · clear hln
    go_enter Try.func19, Try.ntmps19
    go_wp2
    go_loop [4] (fun i => CheckRel ls i) (fun i => n - (intOf i).toNat)
    case atStart => exact ⟨0, Nat.zero_le _, rfl, rfl⟩
    case round =>
      obtain ⟨k, hk, rfl, hall⟩ := hrel
      have hkn : k ≤ n := by have := HLN.out; omega
      by_cases hlt : k < n
      · obtain ⟨b, off, u, rfl, _, hu, hcell⟩ := h.at_ hlt
        have hkl : k < ls.length := by have := HLN.out; omega
        rw [sv_at, List.getElem?_eq_getElem hkl] at hu
        obtain rfl : Value.string (st ls[k]) = u := by simpa using hu
        have hsl := hl ls[k] (List.getElem_mem hkl)
        have HS : Hid (isStep ls[k] = true → (ls.take (k + 1)).all isStep = true) := all_snoc ls k hkl hall
        have HT : Hid (isStep ls[k] = false → (ls.takeWhile isStep).length = k) := tw_stop ls k hkl hall
        generalize ls[k] = x at hcell hsl HS HT
        clear hu
        go_wp2_with fail
        refine (refStep_any x _ hsl).mono ?_
        rintro e w' ⟨rfl, rfl⟩
        cases hx : isStep x with
        | true =>
          go_wp2
          go_round
          case rel => exact ⟨k + 1, by omega, by go_num, HS.out hx⟩
          case measure => simp [intOf]; omega
        | false =>
          have ht := HT.out hx
          have E1 : Hid (checkN ls = k) := by unfold checkN; rw [HLN.out, if_neg h8]; exact ht
          have E2 : Hid (checkE ls = 16) := by unfold checkE; rw [HLN.out, if_neg h8, if_neg (by omega)]; rfl
          clear ht HT HS
          go_wp2
          go_ret2
          exact ⟨k, 16, E1.out.symm, E2.out.symm, rfl, rfl⟩
      · have hk2 : ls.take k = ls := List.take_of_length_le (by have := HLN.out; omega)
        rw [hk2] at hall
        have ht := tw_all ls hall
        have E1 : Hid (checkN ls = n) := by unfold checkN; rw [HLN.out, if_neg h8, ht, HLN.out]; rfl
        have E2 : Hid (checkE ls = 0) := by unfold checkE; rw [HLN.out, if_neg h8, if_pos (ht.trans HLN.out)]; rfl
        have hd : decide (k < n) = false := by simp; omega
        clear ht hall hk2
        go_wp2
        go_ret2
        exact ⟨n, 0, E1.out.symm, E2.out.symm, rfl, rfl⟩

def ofL : List (List UInt8) := [[97], [98], [97, 98], [99], [122], [66], [97, 32, 98], [46, 46, 46], [97, 97, 97, 97, 97, 97, 97, 97, 97, 97, 97, 97, 97, 97, 97, 97, 97, 97, 97, 97, 97, 97, 97, 97, 97, 97, 97, 97, 97, 97, 97, 97], [45]]
theorem ofL_le : ∀ l ∈ ofL, l.length ≤ 64 := by decide
def SomeStr (m : Nat) (w : World) (e : Ending) (w' : World) : Prop := ∃ x : List UInt8, x.length ≤ m ∧ e = .returned (.string (st x)) ∧ Below w.heap.size w w'

theorem of_any (n : Int) (w : World) (h0 : -9223372036854775808 ≤ n) (h1 : n ≤ 9223372036854775807) : Calls Try.prog 17 #[.int .i64 n] w (SomeStr 64 w) := by
  go_enter Try.func17, Try.ntmps17
  go_wp2_with fail
  refine (around_any n 10 _ h0 h1 (by omega) (by omega)).mono ?_
  rintro e w' ⟨k, hk, hkb, rfl, hw⟩
  rw [← hw]
  clear hw
  have hc : k = 0 ∨ k = 1 ∨ k = 2 ∨ k = 3 ∨ k = 4 ∨ k = 5 ∨ k = 6 ∨ k = 7 ∨ k = 8 ∨ k = 9 := by omega
  clear hk hkb
  rcases hc with rfl | rfl | rfl | rfl | rfl | rfl | rfl | rfl | rfl | rfl
  · go_wp2
    go_ret
    exact ⟨[97], by decide, rfl, (Below.refl _ _).alloc (Nat.le_refl _) _⟩
  · go_wp2
    go_ret
    exact ⟨[98], by decide, rfl, (Below.refl _ _).alloc (Nat.le_refl _) _⟩
  · go_wp2
    go_ret
    exact ⟨[97, 98], by decide, rfl, (Below.refl _ _).alloc (Nat.le_refl _) _⟩
  · go_wp2
    go_ret
    exact ⟨[99], by decide, rfl, (Below.refl _ _).alloc (Nat.le_refl _) _⟩
  · go_wp2
    go_ret
    exact ⟨[122], by decide, rfl, (Below.refl _ _).alloc (Nat.le_refl _) _⟩
  · go_wp2
    go_ret
    exact ⟨[66], by decide, rfl, (Below.refl _ _).alloc (Nat.le_refl _) _⟩
  · go_wp2
    go_ret
    exact ⟨[97, 32, 98], by decide, rfl, (Below.refl _ _).alloc (Nat.le_refl _) _⟩
  · go_wp2
    go_ret
    exact ⟨[46, 46, 46], by decide, rfl, (Below.refl _ _).alloc (Nat.le_refl _) _⟩
  · go_wp2
    go_ret
    exact ⟨[97, 97, 97, 97, 97, 97, 97, 97, 97, 97, 97, 97, 97, 97, 97, 97, 97, 97, 97, 97, 97, 97, 97, 97, 97, 97, 97, 97, 97, 97, 97, 97], by decide, rfl, (Below.refl _ _).alloc (Nat.le_refl _) _⟩
  · go_wp2
    go_ret
    exact ⟨[45], by decide, rfl, (Below.refl _ _).alloc (Nat.le_refl _) _⟩

end Go.Proofs.Ytipmeclcamllbaa
