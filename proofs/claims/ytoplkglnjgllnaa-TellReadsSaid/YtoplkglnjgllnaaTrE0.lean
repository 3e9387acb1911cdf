/-
  Layer 18: slices.Equal of qids, bytes.Equal.
-/
import Derived.Test.YtoplkglnjgllnaaTrB
import Derived.Test.YtoplkglnjgllnaaTrA
namespace Go.Proofs.Ytoplkglnjgllnaa
open Go.RowKit
set_option linter.unusedVariables false
set_option linter.unusedSimpArgs false

/-- Are two qids the same? -/
def sameQ (a b : QidV) : Bool := a.dir == b.dir && a.ver == b.ver && a.path == b.path
def sameQs : List QidV → List QidV → Bool
  | [], [] => true
  | a :: l, b :: m => sameQ a b && sameQs l m
  | _, _ => false
theorem sameQs_len : ∀ (a b : List QidV), a.length ≠ b.length → sameQs a b = false
  | [], [], h => by simp at h
  | [], _ :: _, _ => rfl
  | _ :: _, [], _ => rfl
  | a :: l, b :: m, h => by
    have := sameQs_len l m (by simpa using h)
    simp [sameQs, this]
/-- From place j on. -/
theorem sameQs_drop : ∀ (a b : List QidV) (j : Nat) (x y : QidV), a[j]? = some x → b[j]? = some y → sameQs (a.drop j) (b.drop j) = (sameQ x y && sameQs (a.drop (j + 1)) (b.drop (j + 1))) := by
  intro a b j x y hx hy
  obtain ⟨h1, h2⟩ := List.getElem?_eq_some_iff.1 hx
  obtain ⟨h3, h4⟩ := List.getElem?_eq_some_iff.1 hy
  rw [List.drop_eq_getElem_cons h1, List.drop_eq_getElem_cons h3, h2, h4]
  rfl
def EqRel (a b : List QidV) (n : Nat) (w : World) (i : Value) (wr : World) : Prop := ∃ j : Nat, j ≤ n ∧ i = .int .i64 j ∧ Hid (sameQs a b = sameQs (a.drop j) (b.drop j)) ∧ Below w.heap.size w wr
set_option maxRecDepth 20000 in
set_option maxHeartbeats 4000000 in
theorem equalQs_any (A1 A2 : Option Addr) (n1 n2 c1 c2 : Nat) (a b : List QidV) (w : World) (h1 : RdR w w.heap.size 3 A1 n1 (a.map qidC)) (h2 : RdR w w.heap.size 3 A2 n2 (b.map qidC)) (hn : n1 ≤ 1048576) :
    Calls Try.prog 32 #[.slice A1 n1 c1, .slice A2 n2 c2] w fun e w' => e = .returned (.bool (sameQs a b)) ∧ Below w.heap.size w w' := by
  have g53 : Try.prog.eqGuardType Try.prog.depth 23 = false := by kernel_rfl
  have s53 : Try.prog.stoodInHeld 23 = false := by kernel_rfl
  have hl1 : a.length = n1 := by have := h1.len; simpa using this
  have hl2 : b.length = n2 := by have := h2.len; simpa using this
  have H1 := Lib.hid h1
  have H2 := Lib.hid h2
  have HL1 := Lib.hid hl1
  have HL2 := Lib.hid hl2
  clear h1 h2 hl1 hl2
  by_cases hne : n1 = n2
  · subst hne
    go_enter Try.func32, Try.ntmps32
    go_wp2
    go_loopw [13] (fun i wr => EqRel a b n1 w i wr) (fun i _ => n1 - (intOf i).toNat)
    case atStart => exact ⟨0, by omega, rfl, Lib.hid (by simp), Below.refl _ _⟩
    case round =>
      obtain ⟨j, hj, rfl, hs, hbw⟩ := hrel
      by_cases hlt : j < n1
      · have j0 : (0 : Int) ≤ j := by omega
        have j1 : (j : Int) < n1 := by omega
        obtain ⟨b1, o1, r1, hA1, hb1, hr1, _, hc1⟩ := (H1.out.below hbw).at_ hlt
        obtain ⟨b2, o2, r2, hA2, hb2, hr2, _, hc2⟩ := (H2.out.below hbw).at_ hlt
        have hj1 : j < a.length := by rw [HL1.out]; exact hlt
        have hj2 : j < b.length := by rw [HL2.out]; exact hlt
        obtain ⟨x, hx⟩ : ∃ x, a[j]? = some x := ⟨_, List.getElem?_eq_getElem hj1⟩
        obtain ⟨y, hy⟩ : ∃ y, b[j]? = some y := ⟨_, List.getElem?_eq_getElem hj2⟩
        have hd := sameQs_drop a b j x y hx hy
        rw [List.getElem?_map, hx] at hr1
        rw [List.getElem?_map, hy] at hr2
        obtain rfl : r1 = qidC x := (Option.some.inj hr1).symm
        obtain rfl : r2 = qidC y := (Option.some.inj hr2).symm
        obtain ⟨xd, xv, xp⟩ := x
        obtain ⟨yd, yv, yp⟩ := y
        subst hA1
        subst hA2
        have d0 : ∀ p : Abv NoG wr.drew, p.val.cell? ⟨b1, o1 + j * 3, none⟩ = some (.bool xd) := cell_abv (w := wr.drew) (hc1 0 _ rfl) id
        have d1 : ∀ p : Abv NoG wr.drew, p.val.cell? ⟨b1, o1 + j * 3 + 1, none⟩ = some (.int .i64 xv) := cell_abv (w := wr.drew) (hc1 1 _ rfl) id
        have d2 : ∀ p : Abv NoG wr.drew, p.val.cell? ⟨b1, o1 + j * 3 + 2, none⟩ = some (.int .i64 xp) := cell_abv (w := wr.drew) (hc1 2 _ rfl) id
        have e0 : ∀ p : Abv NoG wr.drew, p.val.cell? ⟨b2, o2 + j * 3, none⟩ = some (.bool yd) := cell_abv (w := wr.drew) (hc2 0 _ rfl) id
        have e1 : ∀ p : Abv NoG wr.drew, p.val.cell? ⟨b2, o2 + j * 3 + 1, none⟩ = some (.int .i64 yv) := cell_abv (w := wr.drew) (hc2 1 _ rfl) id
        have e2 : ∀ p : Abv NoG wr.drew, p.val.cell? ⟨b2, o2 + j * 3 + 2, none⟩ = some (.int .i64 yp) := cell_abv (w := wr.drew) (hc2 2 _ rfl) id
        have HD := Lib.hid hd
        clear hc1 hc2 hr1 hr2 hx hy hb1 hb2 hd
        by_cases he : xd = yd ∧ xv = yv ∧ xp = yp
        · obtain ⟨rfl, rfl, rfl⟩ := he
          have hnx : sameQs a b = sameQs (a.drop (j + 1)) (b.drop (j + 1)) := by rw [hs.out, HD.out]; simp [sameQ]
          have HNX := Lib.hid hnx
          clear hnx
          go_wp2
          refine wp_region_plan NoG [(0, false), (1, false), (2, false), (3, false), (4, false), (5, false), (6, false), (7, false), (8, false)] (by kernel_rfl) (by kernel_rfl) ?_
          repeat (refine plan_take (by simp only [List.getElem?_toArray, List.getElem?_cons_succ, List.getElem?_cons_zero]; exact rfl) ?_; go_big_quiet_step (fail); refine wpQuiet_nil ?_)
          refine plan_end ?_
          go_wp2
          go_roundw
          case rel => exact ⟨j + 1, by omega, by go_num, HNX.out, hbw.drew⟩
          case measure => simp [intOf]; omega
        · have hq : (xd == yd && xv == yv && xp == yp) = false := by
            rcases Decidable.em (xd = yd) with h1 | h1
            · rcases Decidable.em (xv = yv) with h2 | h2
              · rcases Decidable.em (xp = yp) with h3 | h3
                · exact absurd ⟨h1, h2, h3⟩ he
                · simp [h3]
              · simp [h2]
            · simp [h1]
          have hnx : sameQs a b = false := by rw [hs.out, HD.out]; simp only [sameQ, hq, Bool.false_and]
          have HNX := Lib.hid hnx
          have h3 : ¬ xd = yd ∨ (xd = yd ∧ ¬ xv = yv) ∨ (xd = yd ∧ xv = yv ∧ ¬ xp = yp) := by
            rcases Decidable.em (xd = yd) with h1 | h1
            · rcases Decidable.em (xv = yv) with h2 | h2
              · exact .inr (.inr ⟨h1, h2, fun h3 => he ⟨h1, h2, h3⟩⟩)
              · exact .inr (.inl ⟨h1, h2⟩)
            · exact .inl h1
          clear hnx he hq
          rcases h3 with h3 | ⟨rfl, h3⟩ | ⟨rfl, rfl, h3⟩
          all_goals
            go_wp2
            refine wp_region_plan NoG [(0, false), (1, false), (2, false), (3, false), (4, false), (5, false), (6, false), (7, false), (8, false)] (by kernel_rfl) (by kernel_rfl) ?_
            repeat (refine plan_take (by simp only [List.getElem?_toArray, List.getElem?_cons_succ, List.getElem?_cons_zero]; exact rfl) ?_; go_big_quiet_step (fail); refine wpQuiet_nil ?_)
            refine plan_end ?_
            go_wp2
            go_ret
            exact ⟨by rw [HNX.out]; rfl, hbw.drew⟩
      · obtain rfl : j = n1 := by omega
        have j1 : ¬ (j : Int) < j := by omega
        have hr : sameQs a b = true := by
          rw [hs.out, List.drop_of_length_le (by rw [HL1.out]; exact Nat.le_refl _), List.drop_of_length_le (by rw [HL2.out]; exact Nat.le_refl _)]; rfl
        have HR := Lib.hid hr
        clear hr
        go_wp2
        go_ret
        exact ⟨by rw [HR.out]; rfl, hbw⟩
  · have hr := sameQs_len a b (by rw [HL1.out, HL2.out]; exact hne)
    have HR := Lib.hid hr
    have hne2 : ¬ (n1 : Int) = n2 := by omega
    clear hr
    go_enter Try.func32, Try.ntmps32
    go_wp2
    go_ret
    exact ⟨by rw [HR.out]; rfl, Below.refl _ _⟩
theorem bytesEqual_any (A1 A2 : Option Addr) (n1 n2 c1 c2 : Nat) (a b : List UInt8) (w : World) (h1 : RdB w w.heap.size A1 n1 a) (h2 : RdB w w.heap.size A2 n2 b) :
    Calls Try.prog 33 #[.slice A1 n1 c1, .slice A2 n2 c2] w fun e w' => e = .returned (.bool (a == b)) ∧ Below w.heap.size w w' := by
  have hcA := str_of (c := c1) h1 (Below.refl _ _)
  have hcB := str_of (c := c2) h2 (Below.refl _ _)
  clear h1 h2
  go_enter Try.func33, Try.ntmps33
  go_wp2
  go_ret
  exact ⟨rfl, Below.refl _ _⟩
end Go.Proofs.Ytoplkglnjgllnaa
