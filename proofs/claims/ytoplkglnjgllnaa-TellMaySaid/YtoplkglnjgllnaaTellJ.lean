/-
  tell's writer: qids.
-/
import Derived.Test.YtoplkglnjgllnaaTellI
import Derived.Test.YtoplkglnjgllnaaRowK
import Derived.ScopeJumps
import Derived.WalkMore
namespace Go.Proofs.Ytoplkglnjgllnaa
open Go.RowKit
set_option linter.unusedVariables false
set_option linter.unusedSimpArgs false

/-- A scope in which the run jumps back to one label: the pass once, for the first way too. -/
theorem wp_scope_jumps2 {P : Program} {a : Act} {w : World} {Q : Exit → Act → World → Prop} {c rest : Code} (l : Nat) (J : Act → World → Prop) (μ : Act → World → Nat) (hf : findLabel c l = some (.seq .skip rest))
    (pass : ∀ a w, J a w → rest.wp P (Exit.jump l (fun a' w' => J a' w' ∧ μ a' w' < μ a w) Q) a w)
    (first : (∀ a w, J a w → rest.wp P (Exit.jump l J Q) a w) → c.wp P (Exit.jump l J Q) a w) : (Code.scope c).wp P Q a w :=
  wp_scope_jumps l J μ hf (first fun a w h => Code.wp_mono (fun e a' w' h' => by
    cases e <;> first | exact h' | exact ⟨h'.1, h'.2.1⟩) (pass a w h)) fun a w h => wp_seq (wp_skip (pass a w h))

/-- Qids' bytes; if there are too many, nothing is laid. -/
def qidsB (qs : List QidV) : List UInt8 := if qs.length ≤ 8 then le 2 qs.length ++ qs.flatMap qidB else []
def qidsOk (qs : List QidV) : Bool := decide (qs.length ≤ 8) && qs.all qidOk

def QsJ (g : Nat) (xs : List Value) (l : List UInt8) (ok : Bool) (A1 : Option Addr) (n1 c1 : Nat) (qs : List QidV) (w : World) (a' : Act) (w' : World) : Prop :=
  ∃ (j : Nat) (l' : List UInt8) (ok' : Bool), j ≤ n1 ∧ Hid (l' = l ++ le 2 n1 ++ (qs.take j).flatMap qidB) ∧ Hid (ok' = (ok && (qs.take j).all qidOk)) ∧ Wr w' g xs l' ok' ∧ Keeps (Is g) w w' ∧
    ∃ (u2 u3 u5 u6 u7 u8 u9 u10 u11 u12 u13 u14 u15 u16 u17 u18 u19 u20 u21 u22 u23 u24 u25 u26 u27 u28 u29 u30 u31 u32 u33 : Value), a' = { tmps := #[.pointer (some ⟨g, 0, none⟩), .slice A1 n1 c1, u2, u3, .int .i64 j, u5, u6, u7, u8, u9, u10, u11, u12, u13, u14, u15, u16, u17, u18, u19, u20, u21, u22, u23, u24, u25, u26, u27, u28, u29, u30, u31, u32, u33], defers := [] }

theorem flat_len18 : ∀ qs : List QidV, (qs.flatMap qidB).length = 13 * qs.length
  | [] => rfl
  | q :: qs => by rw [List.flatMap_cons, List.length_append, qidB_len, flat_len18 qs, List.length_cons]; omega
def ivOf : Value → Int | .int _ q => q | _ => 0

set_option maxRecDepth 20000 in
set_option maxHeartbeats 4000000 in
theorem wQids_any (g : Nat) (xs : List Value) (l : List UInt8) (ok : Bool) (A1 : Option Addr) (n1 c1 : Nat) (qs : List QidV) (w : World) (h : Wr w g xs l ok) (hr : RdR w g 3 A1 n1 (qs.map qidC)) (hl : l.length ≤ 800000) :
    Calls Try.prog 79 #[.pointer (some ⟨g, 0, none⟩), .slice A1 n1 c1] w (UnitWr g xs (l ++ qidsB qs) (ok && qidsOk qs) w) := by
  have hlq : qs.length = n1 := by have := hr.len; simpa using this
  have HLQ := Lib.hid hlq
  have HR := Lib.hid hr
  have H := Lib.hid h
  have hgl := h.lt
  obtain ⟨A, c, d, hB0, ho0, hx⟩ := h
  by_cases hlong : 8 < n1
  · have p19 := hB0.cell 19 _ (wr_at19 hx)
    have f19 := hB0.free 19
    have hw1 := Wr.note hB0 ho0 hx false
    have hk1 : Keeps (Is g) w (w.setCell ⟨g, 19, none⟩ (.bool false)) := (Keeps.refl (Is g) _).setCell (p := ⟨g, 19, none⟩) (.inl rfl) _
    have HW1 := Lib.hid hw1
    have HK1 := Lib.hid hk1
    have hli : (8 : Int) < n1 := by omega
    clear hw1 hk1 hB0 ho0 hlq hr
    go_enter Try.func79, Try.ntmps79
    go_wp2
    go_step3
    go_wp2
    rw [Exit.noGoto_ret]
    go_end0
    exact ⟨rfl, l, false, Lib.hid (by unfold qidsB; rw [if_neg (by rw [HLQ.out]; omega), List.append_nil]), Lib.hid (by unfold qidsOk; rw [decide_eq_false (by rw [HLQ.out]; omega)]; simp), HW1.out, HK1.out⟩
  · have hln0 := ho0.len
    have hcap0 := ho0.cap
    have hb0 := hB0.cell 18 _ (wr_at18 hx)
    have HLN0 := Lib.hid hln0
    have HB0 := Lib.hid hB0
    have HO0 := Lib.hid ho0
    have hli : ¬ (8 : Int) < n1 := by omega
    have hw16 : IntKind.u16.wrap (n1 : Int) = (n1 : Int) := by rw [wrap16]; unfold n16; omega
    clear hB0 ho0 hln0 hlq hr
    go_enter Try.func79, Try.ntmps79
    go_wp2
    refine wp_scope_jumps2 0 (fun a' w' => QsJ g xs l ok A1 n1 c1 qs w a' w') (fun a' _ => n1 - (ivOf (a'.tmps.getD 4 undef)).toNat) rfl ?_ ?_
    · rintro a' w' ⟨j, l', ok', hj, hl', hok', hw', hk', u2, u3, u5, u6, u7, u8, u9, u10, u11, u12, u13, u14, u15, u16, u17, u18, u19, u20, u21, u22, u23, u24, u25, u26, u27, u28, u29, u30, u31, u32, u33, rfl⟩
      by_cases hlt : j < n1
      · have j0 : (0 : Int) ≤ j := by omega
        have j1 : (j : Int) < n1 := by omega
        obtain ⟨b1, o1, r1, hA1, hb1, hr1, _, hc1⟩ := (HR.out.below (hk'.is (Nat.le_refl g) (Nat.le_of_lt hgl))).at_ hlt
        have hj1 : j < qs.length := by rw [HLQ.out]; exact hlt
        obtain ⟨x, hx1⟩ : ∃ x, qs[j]? = some x := ⟨_, List.getElem?_eq_getElem hj1⟩
        rw [List.getElem?_map, hx1] at hr1
        obtain rfl : r1 = qidC x := (Option.some.inj hr1).symm
        have htk : qs.take (j + 1) = qs.take j ++ [x] := by rw [List.take_add_one, hx1]; rfl
        have HTK := Lib.hid htk
        have hlen : l'.length ≤ 800200 := by rw [hl'.out, List.length_append, List.length_append, le_length, flat_len18, List.length_take]; omega
        have HLEN := Lib.hid hlen
        subst hA1
        have d0 := hc1 0 _ rfl
        have d1 := hc1 1 _ rfl
        have d2 := hc1 2 _ rfl
        simp only [Nat.add_zero] at d0
        have HW := Lib.hid hw'
        have HK := Lib.hid hk'
        clear hc1 hr1 hx1 hb1 htk hlen hw' hk'
        go_wp2_with fail
        refine (wQid_any g xs l' ok' x _ HW.out (by have := HLEN.out; omega)).mono ?_
        rintro e w2 ⟨rfl, l2, ok2, hl2, hok2, hw2, hk2⟩
        have HW2 := Lib.hid hw2
        have HK2 := Lib.hid (HK.out.trans hk2)
        clear hw2 hk2 d0 d1 d2
        go_wp2
        go_step3
        refine ⟨rfl, ⟨j + 1, l2, ok2, by omega, Lib.hid ?_, Lib.hid ?_, HW2.out, HK2.out, ?_⟩, ?_⟩
        · rw [hl2.out, hl'.out, HTK.out]; simp [List.append_assoc]
        · rw [hok2.out, hok'.out, HTK.out]; simp [Bool.and_assoc]
        · refine ⟨_, _, _, _, _, _, _, _, _, _, _, _, _, _, _, _, _, _, _, _, _, _, _, _, _, _, _, _, _, _, _, rfl⟩
        · simp [ivOf]; omega
      · obtain rfl : j = n1 := by omega
        have j1 : ¬ (j : Int) < j := by omega
        have HW := Lib.hid hw'
        have HK := Lib.hid hk'
        clear hw' hk'
        go_wp2
        simp only [Exit.jump]
        go_end0
        refine ⟨rfl, l', ok', Lib.hid ?_, Lib.hid ?_, HW.out, HK.out⟩
        · rw [hl'.out]; unfold qidsB; rw [if_pos (by rw [HLQ.out]; omega), List.take_of_length_le (by rw [HLQ.out]; exact Nat.le_refl _), HLQ.out]; simp [List.append_assoc]
        · rw [hok'.out]; unfold qidsOk; rw [decide_eq_true (by rw [HLQ.out]; omega), List.take_of_length_le (by rw [HLQ.out]; exact Nat.le_refl _)]; simp
    · intro hpass
      have HP := Lib.hid hpass
      clear hpass
      go_wp2_with fail
      refine (u16_any A c d l n1 _ HO0.out.rd hcap0.1 (by rw [← HLN0.out]; omega) (by omega)).mono ?_
      rintro e w2 ⟨A2, n2, c2, l2, hl2, rfl, hown2, hb2⟩
      have hB2 := HB0.out.up hb2
      have f18 := hB2.free 18
      have p18 := hB2.cell 18 _ (wr_at18 hx)
      have hw3 := Wr.laid hB2 (hown2.lower (Nat.succ_le_of_lt hgl)) hx
      have hk3 : Keeps (Is g) w (w2.setCell ⟨g, 18, none⟩ (.slice A2 n2 c2)) := (Keeps.of_below hb2).trans ((Keeps.refl (Is g) _).setCell (p := ⟨g, 18, none⟩) (.inl rfl) _)
      have HW3 := Lib.hid hw3
      have HK3 := Lib.hid hk3
      clear hB2 hown2 hb2 hb0 hw3 hk3
      go_wp2
      go_step3
      rename_i hKK
      refine hKK _ _ (HP.out _ _ ?_)
      exact ⟨0, l2, ok, by omega, Lib.hid (by rw [hl2.out]; simp), Lib.hid (by simp), HW3.out, HK3.out, _, _, _, _, _, _, _, _, _, _, _, _, _, _, _, _, _, _, _, _, _, _, _, _, _, _, _, _, _, _, _, rfl⟩
end Go.Proofs.Ytoplkglnjgllnaa
