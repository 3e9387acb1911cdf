/-
  Layer 2: SameBytes, at lists that are the same.
-/
import Derived.Test.YthfepdgamhidgaaLittleW
namespace Go.Proofs.Ythfepdgamhidgaa
open Go.RowKit
set_option linter.unusedVariables false

def SbRel (w : World) (n : Nat) (i : Value) (wr : World) : Prop := ∃ j : Nat, j ≤ n ∧ i = .int .i64 j ∧ Below w.heap.size w wr

theorem RdBB.more {w : World} {B B' n : Nat} {A : Option Addr} {ls : List (List UInt8)} (h : RdBB w B A n ls) (hB : B ≤ B') : RdBB w B' A n ls := by
  refine ⟨h.1, fun hn => ?_⟩
  obtain ⟨b, off, hA, hb, hc⟩ := h.2 hn
  refine ⟨b, off, hA, by omega, fun i l hl => ?_⟩
  obtain ⟨Ai, ni, ci, h1, h2, h3⟩ := hc i l hl
  exact ⟨Ai, ni, ci, h1, h2.more hB, h3⟩

theorem sameBytes_eq (A : Option Addr) (n c : Nat) (A' : Option Addr) (n' c' : Nat) (ls : List (List UInt8)) (w : World) (h : RdBB w w.heap.size A n ls) (h' : RdBB w w.heap.size A' n' ls) (hn : n ≤ 1048576) :
    Calls Try.prog 24 #[.slice A n c, .slice A' n' c'] w fun e w' => e = .returned (.bool true) ∧ Below w.heap.size w w' := by
  obtain rfl : n = n' := h.1.symm.trans h'.1
  have H := Lib.hid h
  have H' := Lib.hid h'
  clear h h'
  go_enter Try.func24, Try.ntmps24
  go_wp2
  go_loopw [5] (fun i wr => SbRel w n i wr) (fun i _ => n - (intOf i).toNat)
  case atStart => exact ⟨0, by omega, rfl, Below.refl _ _⟩
  case round =>
    obtain ⟨j, hj, rfl, hbw⟩ := hrel
    by_cases hlt : j < n
    · obtain ⟨b, off, l, Ai, ni, ci, hA, hb, hl, hc, hr, _⟩ := H.out.at_ hlt
      obtain ⟨b', off', l', Ai', ni', ci', hA', hb', hl', hc', hr', _⟩ := H'.out.at_ hlt
      obtain rfl : l = l' := Option.some.inj (hl.symm.trans hl')
      subst hA hA'
      have kc : ∀ p : Abv NoG wr.drew, p.val.cell? ⟨b, off + j, none⟩ = some (.slice Ai ni ci) := fun p => cell_later ((below_of_drew p.below)) (cell_later hbw hc)
      have kc' : ∀ p : Abv NoG wr.drew, p.val.cell? ⟨b', off' + j, none⟩ = some (.slice Ai' ni' ci') := fun p => cell_later ((below_of_drew p.below)) (cell_later hbw hc')
      have ks := str_abv (w := wr.drew) (c := ci) (hr.up hbw.drew)
      have ks' := str_abv (w := wr.drew) (c := ci') (hr'.up hbw.drew)
      have hj0 : (0 : Int) ≤ j := by omega
      have hjn : (j : Int) < n := by omega
      clear hc hc' hl hl' hr hr'
      go_wp2
      refine wp_region_plan NoG [(0, false), (1, false), (2, false), (3, false), (4, false), (5, false), (6, false), (7, false), (8, false), (9, false), (10, false)] (by kernel_rfl) (by kernel_rfl) ?_
      repeat (refine plan_take (by simp only [List.getElem?_toArray, List.getElem?_cons_succ, List.getElem?_cons_zero]; exact rfl) ?_; go_big_quiet_step (fail); refine wpQuiet_nil ?_)
      refine plan_end ?_
      clear kc kc' ks ks'
      go_wp2
      go_roundw
      case rel => exact ⟨j + 1, by omega, by go_num, hbw.drew⟩
      case measure => simp [intOf]; omega
    · obtain rfl : j = n := by omega
      go_wp2
      go_ret
      exact ⟨rfl, hbw⟩
end Go.Proofs.Ythfepdgamhidgaa
