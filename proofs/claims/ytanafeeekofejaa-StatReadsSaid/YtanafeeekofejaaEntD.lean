/-
  Same, of entries that are alike; the two Entries.
-/
import Derived.Test.YtanafeeekofejaaEntC
namespace Go.Proofs.Ytanafeeekofejaa
open Go.RowKit
set_option linter.unusedVariables false
set_option linter.unusedSimpArgs false

def SmRel (n : Nat) (w : World) (i : Value) (wr : World) : Prop := ∃ j : Nat, j ≤ n ∧ i = .int .i64 j ∧ Below w.heap.size w wr

set_option maxHeartbeats 2000000 in
theorem same11_eq (A1 A2 : Option Addr) (n c1 c2 : Nat) (es : List Ent) (w : World) (h1 : RdR w w.heap.size 3 A1 n (es.map entC)) (h2 : RdR w w.heap.size 3 A2 n (es.map entC)) (hn : n ≤ 1048576) :
    Calls Try.prog 31 #[.slice A1 n c1, .slice A2 n c2] w fun e w' => e = .returned (.bool true) ∧ Below w.heap.size w w' := by
  have g53 : Try.prog.eqGuardType Try.prog.depth 53 = false := by kernel_rfl
  have s53 : Try.prog.stoodInHeld 53 = false := by kernel_rfl
  have H1 := Lib.hid h1
  have H2 := Lib.hid h2
  have hl : es.length = n := by have := h1.len; simpa using this
  have HL := Lib.hid hl
  clear h1 h2 hl
  go_enter Try.func31, Try.ntmps31
  go_wp2
  go_loopw [5] (fun i wr => SmRel n w i wr) (fun i _ => n - (intOf i).toNat)
  case atStart => exact ⟨0, by omega, rfl, Below.refl _ _⟩
  case round =>
    obtain ⟨j, hj, rfl, hbw⟩ := hrel
    by_cases hlt : j < n
    · have j0 : (0 : Int) ≤ j := by omega
      have j1 : (j : Int) < n := by omega
      obtain ⟨b1, o1, r1, hA1, hb1, hr1, _, hc1⟩ := (H1.out.below hbw).at_ hlt
      obtain ⟨b2, o2, r2, hA2, hb2, hr2, _, hc2⟩ := (H2.out.below hbw).at_ hlt
      have hjl : j < es.length := by rw [HL.out]; exact hlt
      obtain ⟨x, hx⟩ : ∃ x, x = es[j] := ⟨_, rfl⟩
      rw [List.getElem?_map, List.getElem?_eq_getElem hjl, ← hx] at hr1 hr2
      obtain rfl : r1 = entC x := by simpa using hr1.symm
      obtain rfl : r2 = entC x := by simpa using hr2.symm
      obtain ⟨xs, xi, xg⟩ := x
      subst hA1
      subst hA2
      have d0 : ∀ p : Abv NoG wr.drew, p.val.cell? ⟨b1, o1 + j * 3, none⟩ = some (.string (st xs)) := cell_abv (w := wr.drew) (hc1 0 _ rfl) id
      have d1 := cell_abv (G := NoG) (w := wr.drew) (hc1 1 _ rfl) id
      have d2 := cell_abv (G := NoG) (w := wr.drew) (hc1 2 _ rfl) id
      have e0 : ∀ p : Abv NoG wr.drew, p.val.cell? ⟨b2, o2 + j * 3, none⟩ = some (.string (st xs)) := cell_abv (w := wr.drew) (hc2 0 _ rfl) id
      have e1 := cell_abv (G := NoG) (w := wr.drew) (hc2 1 _ rfl) id
      have e2 := cell_abv (G := NoG) (w := wr.drew) (hc2 2 _ rfl) id
      clear hc1 hc2 hr1 hr2 hx hb1 hb2
      go_wp2
      refine wp_region_plan NoG [(0, false), (1, false), (2, false), (3, false), (4, false), (5, false), (6, false), (7, false), (8, false)] (by kernel_rfl) (by kernel_rfl) ?_
      repeat (refine plan_take (by simp only [List.getElem?_toArray, List.getElem?_cons_succ, List.getElem?_cons_zero]; exact rfl) ?_; go_big_quiet_step (fail); refine wpQuiet_nil ?_)
      refine plan_end ?_
      go_wp2
      go_roundw
      case rel => exact ⟨j + 1, by omega, by go_num, hbw.drew⟩
      case measure => simp [intOf]; omega
    · obtain rfl : j = n := by omega
      have j1 : ¬ (j : Int) < j := by omega
      go_wp2
      go_ret
      exact ⟨rfl, hbw⟩

/-! ### the entries of bytes -/
/-- One entry read. -/
def en1S (l : List UInt8) : List UInt8 := txB l 0
def en1I (l : List UInt8) : Nat := num (nxB (txL l 0) (txE l 0) 4)
def en1G (l : List UInt8) : Nat := num (nxB (nxL (txL l 0) (txE l 0) 4) (nxE (txL l 0) (txE l 0) 4) 4)
def en1L (l : List UInt8) : List UInt8 := nxL (nxL (txL l 0) (txE l 0) 4) (nxE (txL l 0) (txE l 0) 4) 4
def en1E (l : List UInt8) : Int := nxE (nxL (txL l 0) (txE l 0) 4) (nxE (txL l 0) (txE l 0) 4) 4
/-- The entries of bytes, and the error. -/
def entsAux : Nat → List UInt8 → List Ent → List Ent × Int
  | 0, _, acc => (acc, 0)
  | f + 1, l, acc => if l = [] then (acc, 0) else if en1E l ≠ 0 then ([], en1E l) else if isName (en1S l) = false then ([], 16) else entsAux f (en1L l) (acc ++ [(en1S l, en1I l, en1G l)])

theorem nxL_lt (l : List UInt8) (e : Int) (n : Nat) (h : nxE l e n = 0) : (nxL l e n).length + n = l.length := by
  unfold nxE at h
  unfold nxL
  split at h
  · rename_i h0
    split at h
    · rename_i hn
      rw [if_pos ⟨h0, hn⟩, List.length_drop]; omega
    · omega
  · rename_i h0
    exact absurd h h0
theorem nxE_ne (l : List UInt8) (e : Int) (n : Nat) (h : e ≠ 0) : nxE l e n = e := by unfold nxE; rw [if_neg h]
theorem en1L_lt (l : List UInt8) (h : en1E l = 0) : (en1L l).length + 10 ≤ l.length := by
  have h3 := nxL_lt _ _ _ h
  have h2 : nxE (txL l 0) (txE l 0) 4 = 0 := by
    rcases Decidable.em (nxE (txL l 0) (txE l 0) 4 = 0) with h' | h'
    · exact h'
    · unfold en1E at h; rw [nxE_ne _ _ _ h'] at h; exact absurd h h'
  have h2' := nxL_lt _ _ _ h2
  have h1 : txE l 0 = 0 := by
    rcases Decidable.em (txE l 0 = 0) with h' | h'
    · exact h'
    · rw [nxE_ne _ _ _ h'] at h2; exact absurd h2 h'
  have h0 : nxE l 0 2 = 0 := by
    rcases Decidable.em (nxE l 0 2 = 0) with h' | h'
    · exact h'
    · unfold txE at h1; rw [nxE_ne _ _ _ h'] at h1; exact absurd h1 h'
  have h0' := nxL_lt _ _ _ h0
  have h1' := nxL_lt _ _ _ (show nxE (nxL l 0 2) (nxE l 0 2) (num (nxB l 0 2)) = 0 from h1)
  show (nxL _ _ 4).length + 10 ≤ _
  have e1 : (txL l 0).length = (nxL (nxL l 0 2) (nxE l 0 2) (num (nxB l 0 2))).length := rfl
  omega

/-- Both loops. -/
def EsRel (L : List UInt8) (lo : Nat) (R : World → List UInt8 → Prop) (w : World) (v : Value) (wr : World) : Prop :=
  ∃ (f n c : Nat) (A : Option Addr) (l : List UInt8) (acc : List Ent), v = .slice A n c ∧ l.length ≤ f ∧ Hid (entsAux L.length L [] = entsAux f l acc) ∧ n + l.length ≤ L.length ∧ R wr l ∧ OwR wr lo 53 3 A n c (acc.map entC) ∧ Below w.heap.size w wr
def EntsPost2 (w : World) (r : List Ent × Int) (e : Ending) (w' : World) : Prop :=
  ∃ A n c es E, Hid (es = r.1) ∧ Hid (E = r.2) ∧ e = .returned (.tuple #[.slice A n c, .int .i64 E]) ∧ OwR w' w.heap.size 53 3 A n c (es.map entC) ∧ Below w.heap.size w w'
end Go.Proofs.Ytanafeeekofejaa
