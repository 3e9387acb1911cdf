/-
  Layer 11: the reference's Same.
-/
import Derived.Test.YtoaemkbdfinaoaaDirH
namespace Go.Proofs.Ytoaemkbdfinaoaa
open Go.RowKit
set_option linter.unusedVariables false
set_option linter.unusedSimpArgs false

def SmJ11 (a b : List EntI) (n : Nat) (w : World) (i : Value) (wr : World) : Prop := ∃ j : Nat, j ≤ n ∧ i = .int .i64 j ∧ Hid (decide (a = b) = decide (a.drop j = b.drop j)) ∧ Below w.heap.size w wr
theorem decide_drop (a b : List EntI) (j : Nat) (x y : EntI) (hx : a[j]? = some x) (hy : b[j]? = some y) : decide (a.drop j = b.drop j) = (decide (x = y) && decide (a.drop (j + 1) = b.drop (j + 1))) := by
  obtain ⟨h1, rfl⟩ := List.getElem?_eq_some_iff.1 hx
  obtain ⟨h2, rfl⟩ := List.getElem?_eq_some_iff.1 hy
  rw [Bool.eq_iff_iff, Bool.and_eq_true, decide_eq_true_iff, decide_eq_true_iff, decide_eq_true_iff, List.drop_eq_getElem_cons h1, List.drop_eq_getElem_cons h2, List.cons.injEq]
theorem same11_any (A1 A2 : Option Addr) (n1 n2 c1 c2 : Nat) (a b : List EntI) (w : World) (h1 : RdR w w.heap.size 3 A1 n1 (a.map eiC)) (h2 : RdR w w.heap.size 3 A2 n2 (b.map eiC)) (hn : n1 ≤ 1048576) :
    Calls Try.prog 14 #[.slice A1 n1 c1, .slice A2 n2 c2] w fun e w' => e = .returned (.bool (decide (a = b))) ∧ Below w.heap.size w w' := by
  have g53 : Try.prog.eqGuardType Try.prog.depth 42 = false := by kernel_rfl
  have s53 : Try.prog.stoodInHeld 42 = false := by kernel_rfl
  have H1 := Lib.hid h1
  have H2 := Lib.hid h2
  have HL1 := Lib.hid (show a.length = n1 by have := h1.len; simpa using this)
  have HL2 := Lib.hid (show b.length = n2 by have := h2.len; simpa using this)
  obtain ⟨res, hres⟩ : ∃ r, r = decide (a = b) := ⟨_, rfl⟩
  rw [← hres]
  have HRES := Lib.hid hres
  clear h1 h2 hres
  by_cases hnn : n1 = n2
  · subst hnn
    go_enter Try.func14, Try.ntmps14
    go_wp2
    go_loopw [5] (fun i wr => SmJ11 a b n1 w i wr) (fun i _ => n1 - (intOf i).toNat)
    case atStart => exact ⟨0, by omega, rfl, Lib.hid rfl, Below.refl _ _⟩
    case round =>
      obtain ⟨j, hj, rfl, hab, hbw⟩ := hrel
      by_cases hlt : j < n1
      · have j0 : (0 : Int) ≤ j := by omega
        have j1 : (j : Int) < n1 := by omega
        obtain ⟨b1, o1, r1, hA1, hb1, hr1, _, hc1⟩ := (H1.out.below hbw).at_ hlt
        obtain ⟨b2, o2, r2, hA2, hb2, hr2, _, hc2⟩ := (H2.out.below hbw).at_ hlt
        obtain ⟨x, hx⟩ : ∃ x, a[j]? = some x := ⟨_, List.getElem?_eq_getElem (by rw [HL1.out]; exact hlt)⟩
        obtain ⟨y, hy⟩ : ∃ y, b[j]? = some y := ⟨_, List.getElem?_eq_getElem (by rw [HL2.out]; exact hlt)⟩
        have hdd := decide_drop a b j x y hx hy
        rw [List.getElem?_map, hx] at hr1
        rw [List.getElem?_map, hy] at hr2
        obtain rfl : r1 = eiC x := by simpa using hr1.symm
        obtain rfl : r2 = eiC y := by simpa using hr2.symm
        obtain ⟨xs, xi, xg⟩ := x
        obtain ⟨ys, yi, yg⟩ := y
        subst hA1
        subst hA2
        have d0 : ∀ p : Abv NoG wr.drew, p.val.cell? ⟨b1, o1 + j * 3, none⟩ = some (.string (st xs)) := cell_abv (w := wr.drew) (hc1 0 _ rfl) id
        have d1 := cell_abv (G := NoG) (w := wr.drew) (hc1 1 _ rfl) id
        have d2 := cell_abv (G := NoG) (w := wr.drew) (hc1 2 _ rfl) id
        have e0 : ∀ p : Abv NoG wr.drew, p.val.cell? ⟨b2, o2 + j * 3, none⟩ = some (.string (st ys)) := cell_abv (w := wr.drew) (hc2 0 _ rfl) id
        have e1 := cell_abv (G := NoG) (w := wr.drew) (hc2 1 _ rfl) id
        have e2 := cell_abv (G := NoG) (w := wr.drew) (hc2 2 _ rfl) id
        have HAB := Lib.hid hab.out
        have HDD := Lib.hid hdd
        clear hc1 hc2 hr1 hr2 hx hy hb1 hb2 hab hdd
        by_cases he : xs = ys ∧ xi = yi ∧ xg = yg
        · obtain ⟨rfl, rfl, rfl⟩ := he
          have HNX := Lib.hid (show decide (a = b) = decide (a.drop (j + 1) = b.drop (j + 1)) by rw [HAB.out, HDD.out]; simp)
          go_wp2
          refine wp_region_plan NoG [(0, false), (1, false), (2, false), (3, false), (4, false), (5, false), (6, false), (7, false), (8, false)] (by kernel_rfl) (by kernel_rfl) ?_
          repeat (refine plan_take (by simp only [List.getElem?_toArray, List.getElem?_cons_succ, List.getElem?_cons_zero]; exact rfl) ?_; go_big_quiet_step (fail); refine wpQuiet_nil ?_)
          refine plan_end ?_
          go_wp2
          go_roundw
          case rel => exact ⟨j + 1, by omega, by go_num, Lib.hid HNX.out, hbw.drew⟩
          case measure => simp [intOf]; omega
        · have HF := Lib.hid (show res = false by
            rw [HRES.out, HAB.out, HDD.out, decide_eq_false (fun e => he (by
              have h1 : xs = ys := congrArg (fun x : EntI => x.1) e
              have h2 : xi = yi := congrArg (fun x : EntI => x.2.1) e
              have h3 : xg = yg := congrArg (fun x : EntI => x.2.2) e
              exact ⟨h1, h2, h3⟩))]; rfl)
          have h3 : ¬ xs = ys ∨ (xs = ys ∧ ¬ xi = yi) ∨ (xs = ys ∧ xi = yi ∧ ¬ xg = yg) := by
            rcases Decidable.em (xs = ys) with h1 | h1
            · rcases Decidable.em (xi = yi) with h2 | h2
              · exact .inr (.inr ⟨h1, h2, fun h3 => he ⟨h1, h2, h3⟩⟩)
              · exact .inr (.inl ⟨h1, h2⟩)
            · exact .inl h1
          clear he
          rcases h3 with h3 | ⟨rfl, h3⟩ | ⟨rfl, rfl, h3⟩
          all_goals
            go_wp2
            refine wp_region_plan NoG [(0, false), (1, false), (2, false), (3, false), (4, false), (5, false), (6, false), (7, false), (8, false)] (by kernel_rfl) (by kernel_rfl) ?_
            repeat (refine plan_take (by simp only [List.getElem?_toArray, List.getElem?_cons_succ, List.getElem?_cons_zero]; exact rfl) ?_; go_big_quiet_step (fail); refine wpQuiet_nil ?_)
            refine plan_end ?_
            go_wp2
            go_ret
            exact ⟨by rw [HF.out]; rfl, hbw.drew⟩
      · obtain rfl : j = n1 := by omega
        have j1 : ¬ (j : Int) < j := by omega
        have HF := Lib.hid (show res = true by rw [HRES.out, hab.out, List.drop_eq_nil_of_le (by rw [HL1.out]; exact Nat.le_refl _), List.drop_eq_nil_of_le (by rw [HL2.out]; exact Nat.le_refl _)]; rfl)
        clear hab
        go_wp2
        go_ret
        exact ⟨by rw [HF.out]; rfl, hbw⟩
  · have t0 : ((n1 : Int) != n2) = true := by simp; omega
    have t1 : ¬ (n1 : Int) = n2 := by omega
    have HF := Lib.hid (show res = false by rw [HRES.out]; exact decide_eq_false (fun e => hnn (by rw [← HL1.out, ← HL2.out, e])))
    go_enter Try.func14, Try.ntmps14
    go_wp2
    go_ret
    exact ⟨by rw [HF.out]; rfl, Below.refl _ _⟩
end Go.Proofs.Ytoaemkbdfinaoaa
