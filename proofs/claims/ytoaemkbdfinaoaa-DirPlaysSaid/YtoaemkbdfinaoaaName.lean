/-
  Package name and its reference: Short, Name, Step.
-/
import Derived.Test.YtoaemkbdfinaoaaRefA
namespace Go.Proofs.Ytoaemkbdfinaoaa
open Go.RowKit
set_option linter.unusedVariables false

theorem st_first (l : List UInt8) (k : Nat) : (st l).extract 0 k = st (l.take k) := by
  apply ByteArray.ext
  simp [st, List.extract_eq_take_drop]
theorem st_at (l : List UInt8) (j : Nat) (hj : j < l.length) : ∀ h : j < (st l).size, (st l)[j]'h = l[j] := by
  intro h
  rfl

theorem short_any (l : List UInt8) (most : Nat) (w : World) (hm : most ≤ 65536) (hl : l.length ≤ 9223372036854775807) :
    Calls Try.prog 18 #[.string (st l), .int .i64 most] w fun e w' => ∃ l', Hid (l' = l.take most) ∧ e = .returned (.string (st l')) ∧ w = w' := by
  by_cases h : most < l.length
  · have hx := st_first l most
    generalize hq : l.take most = q at hx
    have HQ := Lib.hid hq
    clear hq
    go_enter Try.func18, Try.ntmps18
    go_wp2
    go_ret
    exact ⟨q, rfl, rfl, rfl⟩
  · go_enter Try.func18, Try.ntmps18
    go_wp2
    go_ret
    exact ⟨l, (List.take_of_length_le (by omega)).symm, rfl, rfl⟩

/-- Of a name's length, and no dots. -/
def goodB (l : List UInt8) : Bool := decide (1 ≤ l.length) && decide (l.length ≤ 32) && !(l == [46]) && !(l == [46, 46])
/-- No byte 0, no slash. -/
def cleanB (l : List UInt8) : Bool := l.all fun c => !(c == 0 || c == 47)
def isName (l : List UInt8) : Bool := cleanB l && goodB l
def isStep (l : List UInt8) : Bool := isName l || l == [46, 46]

def NameRel (l : List UInt8) (g i : Value) : Prop := ∃ k : Nat, k ≤ l.length ∧ i = .int .i64 k ∧ g = .bool (goodB l) ∧ cleanB (l.take k) = true
def BoolPost (w : World) (b : Bool) (e : Ending) (w' : World) : Prop := e = .returned (.bool b) ∧ w = w'

theorem clean_step (l : List UInt8) (k : Nat) (hk : k < l.length) : cleanB (l.take (k + 1)) = (cleanB (l.take k) && !(l[k] == 0 || l[k] == 47)) := by
  unfold cleanB
  rw [List.take_succ_eq_append_getElem hk, List.all_append]
  simp
theorem clean_bad (l : List UInt8) (k : Nat) (hk : k < l.length) (h : (l[k] == 0 || l[k] == 47) = true) : cleanB l = false := by
  unfold cleanB
  rw [List.all_eq_false]
  exact ⟨l[k], List.getElem_mem hk, by simp [h]⟩

theorem name_any (l : List UInt8) (w : World) (hl : l.length ≤ 65536) : Calls Try.prog 31 #[.string (st l)] w (BoolPost w (isName l)) := by
  have hcase : (goodB l = false ∧ decide ((1 : Int) ≤ l.length) = false) ∨ (goodB l = false ∧ decide ((1 : Int) ≤ l.length) = true ∧ decide ((l.length : Int) ≤ 32) = false) ∨ (goodB l = false ∧ decide ((1 : Int) ≤ l.length) = true ∧ decide ((l.length : Int) ≤ 32) = true ∧ (l == [46]) = true) ∨
      (goodB l = false ∧ decide ((1 : Int) ≤ l.length) = true ∧ decide ((l.length : Int) ≤ 32) = true ∧ (l == [46]) = false ∧ (l == [46, 46]) = true) ∨ (goodB l = true ∧ decide ((1 : Int) ≤ l.length) = true ∧ decide ((l.length : Int) ≤ 32) = true ∧ (l == [46]) = false ∧ (l == [46, 46]) = false) := by
    have e1 : decide ((1 : Int) ≤ l.length) = decide (1 ≤ l.length) := by rw [decide_eq_decide]; omega
    have e2 : decide ((l.length : Int) ≤ 32) = decide (l.length ≤ 32) := by rw [decide_eq_decide]; omega
    rw [e1, e2]
    unfold goodB
    cases decide (1 ≤ l.length) <;> cases decide (l.length ≤ 32) <;> cases (l == [46]) <;> cases (l == [46, 46]) <;> simp
  rcases hcase with ⟨hG, d1⟩ | ⟨hG, d1, d2⟩ | ⟨hG, d1, d2, d3⟩ | ⟨hG, d1, d2, d3, d4⟩ | ⟨hG, d1, d2, d3, d4⟩
  all_goals
    have HG := Lib.hid hG
    clear hG
    go_enter Try.func31, Try.ntmps31
    go_wp2
    go_step3
    go_wp2
    go_step3
    go_wp2
    go_loop [3, 23] (fun g i => NameRel l g i) (fun _ i => l.length - (intOf i).toNat)
  all_goals first
    | (case atStart => exact ⟨0, Nat.zero_le _, rfl, by rw [HG.out], rfl⟩)
    | skip
  all_goals
    obtain ⟨k, hk, rfl, rfl, hcl⟩ := hrel
    by_cases hlt : k < l.length
    · obtain ⟨x, hx, hs, hbad⟩ : ∃ x : UInt8, (∀ h : k < (st l).size, (st l)[k]'h = x) ∧ cleanB (l.take (k + 1)) = (cleanB (l.take k) && !(x == 0 || x == 47)) ∧ ((x == 0 || x == 47) = true → cleanB l = false) :=
        ⟨l[k], st_at l k hlt, clean_step l k hlt, clean_bad l k hlt⟩
      by_cases h0 : x = 0
      · have hn : isName l = false := by unfold isName; rw [hbad (by simp [h0])]; rfl
        have HN := Lib.hid hn
        have t0 : ((x.toNat : Int) == 0) = true := by rw [h0]; rfl
        clear hn hs hbad h0
        go_wp2
        first | rw [Exit.noGoto_ret] | skip
        go_ret
        exact ⟨by rw [HN.out]; rfl, rfl⟩
      · by_cases h47 : x = 47
        · have hn : isName l = false := by unfold isName; rw [hbad (by simp [h47])]; rfl
          have HN := Lib.hid hn
          have t0 : ((x.toNat : Int) == 0) = false := by rw [h47]; rfl
          have t1 : ((x.toNat : Int) == 47) = true := by rw [h47]; rfl
          clear hn hs hbad h0 h47
          go_wp2
          first | rw [Exit.noGoto_ret] | skip
          go_ret
          exact ⟨by rw [HN.out]; rfl, rfl⟩
        · have t0 : ((x.toNat : Int) == 0) = false := by
            rw [beq_eq_false_iff_ne]; intro e; apply h0; exact UInt8.toNat_inj.1 (by simpa using e)
          have t1 : ((x.toNat : Int) == 47) = false := by
            rw [beq_eq_false_iff_ne]; intro e; apply h47; apply UInt8.toNat_inj.1; show x.toNat = 47; omega
          have hc2 : cleanB (l.take (k + 1)) = true := by rw [hs, hcl]; simp [h0, h47]
          have HC := Lib.hid hc2
          clear hs hbad h0 h47 hc2
          go_wp2
          go_round
          case rel => exact ⟨k + 1, by omega, by go_num, rfl, HC.out⟩
          case measure => simp [intOf]; omega
    · have hk2 : l.take k = l := List.take_of_length_le (by omega)
      rw [hk2] at hcl
      have hn : isName l = goodB l := by unfold isName; rw [hcl]; rfl
      have HN := Lib.hid hn
      have hd : decide (k < l.length) = false := by simp; omega
      clear hn hcl hk2
      go_wp2
      first | rw [Exit.noGoto_ret] | skip
      go_ret
      exact ⟨by rw [HN.out]; rfl, rfl⟩

def RefNameRel (l : List UInt8) (i : Value) : Prop := ∃ k : Nat, k ≤ l.length ∧ i = .int .i64 k ∧ cleanB (l.take k) = true

theorem refName_any (l : List UInt8) (w : World) (hl : l.length ≤ 65536) : Calls Try.prog 19 #[.string (st l)] w (BoolPost w (isName l)) := by
  go_enter Try.func19, Try.ntmps19
  go_wp2
  go_loop [3] (fun i => RefNameRel l i) (fun i => l.length - (intOf i).toNat)
  case atStart => exact ⟨0, Nat.zero_le _, rfl, rfl⟩
  case round =>
    obtain ⟨k, hk, rfl, hcl⟩ := hrel
    by_cases hlt : k < l.length
    · obtain ⟨x, hx, hs, hbad⟩ : ∃ x : UInt8, (∀ h : k < (st l).size, (st l)[k]'h = x) ∧ cleanB (l.take (k + 1)) = (cleanB (l.take k) && !(x == 0 || x == 47)) ∧ ((x == 0 || x == 47) = true → cleanB l = false) :=
        ⟨l[k], st_at l k hlt, clean_step l k hlt, clean_bad l k hlt⟩
      by_cases h0 : x = 0
      · have hn : isName l = false := by unfold isName; rw [hbad (by simp [h0])]; rfl
        have HN := Lib.hid hn
        have t0 : ((x.toNat : Int) == 0) = true := by rw [h0]; rfl
        clear hn hs hbad h0
        go_wp2
        go_ret
        exact ⟨by rw [HN.out]; rfl, rfl⟩
      · by_cases h47 : x = 47
        · have hn : isName l = false := by unfold isName; rw [hbad (by simp [h47])]; rfl
          have HN := Lib.hid hn
          have t0 : ((x.toNat : Int) == 0) = false := by rw [h47]; rfl
          have t1 : ((x.toNat : Int) == 47) = true := by rw [h47]; rfl
          clear hn hs hbad h0 h47
          go_wp2
          go_ret
          exact ⟨by rw [HN.out]; rfl, rfl⟩
        · have t0 : ((x.toNat : Int) == 0) = false := by
            rw [beq_eq_false_iff_ne]; intro e; apply h0; exact UInt8.toNat_inj.1 (by simpa using e)
          have t1 : ((x.toNat : Int) == 47) = false := by
            rw [beq_eq_false_iff_ne]; intro e; apply h47; apply UInt8.toNat_inj.1; show x.toNat = 47; omega
          have hc2 : cleanB (l.take (k + 1)) = true := by rw [hs, hcl]; simp [h0, h47]
          have HC := Lib.hid hc2
          clear hs hbad h0 h47 hc2
          go_wp2
          go_round
          case rel => exact ⟨k + 1, by omega, by go_num, HC.out⟩
          case measure => simp [intOf]; omega
    · have hk2 : l.take k = l := List.take_of_length_le (by omega)
      rw [hk2] at hcl
      have hn : isName l = goodB l := by unfold isName; rw [hcl]; rfl
      have hd : decide (k < l.length) = false := by simp; omega
      have hcase : (goodB l = false ∧ decide ((0 : Int) < l.length) = false) ∨ (goodB l = false ∧ decide ((0 : Int) < l.length) = true ∧ decide ((l.length : Int) < 33) = false) ∨ (goodB l = false ∧ decide ((0 : Int) < l.length) = true ∧ decide ((l.length : Int) < 33) = true ∧ (l == [46]) = true) ∨
          (goodB l = false ∧ decide ((0 : Int) < l.length) = true ∧ decide ((l.length : Int) < 33) = true ∧ (l == [46]) = false ∧ (l == [46, 46]) = true) ∨ (goodB l = true ∧ decide ((0 : Int) < l.length) = true ∧ decide ((l.length : Int) < 33) = true ∧ (l == [46]) = false ∧ (l == [46, 46]) = false) := by
        have e1 : decide ((0 : Int) < l.length) = decide (1 ≤ l.length) := by rw [decide_eq_decide]; omega
        have e2 : decide ((l.length : Int) < 33) = decide (l.length ≤ 32) := by rw [decide_eq_decide]; omega
        rw [e1, e2]
        unfold goodB
        cases decide (1 ≤ l.length) <;> cases decide (l.length ≤ 32) <;> cases (l == [46]) <;> cases (l == [46, 46]) <;> simp
      clear hcl hk2
      rcases hcase with ⟨hG, d1⟩ | ⟨hG, d1, d2⟩ | ⟨hG, d1, d2, d3⟩ | ⟨hG, d1, d2, d3, d4⟩ | ⟨hG, d1, d2, d3, d4⟩
      all_goals
        have d1' : decide (0 < l.length) = _ := (show decide (0 < l.length) = decide ((0 : Int) < l.length) by rw [decide_eq_decide]; omega).trans d1
        rw [hG] at hn
        have HN := Lib.hid hn
        clear hn hG
        go_wp2
        go_ret
        exact ⟨by rw [HN.out]; rfl, rfl⟩

end Go.Proofs.Ytoaemkbdfinaoaa
