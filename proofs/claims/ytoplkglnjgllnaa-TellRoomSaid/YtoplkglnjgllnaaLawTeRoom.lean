/-
  The law TellRoom.
-/
import Derived.Test.YtoplkglnjgllnaaLawTeBounds
import Derived.Test.YtoplkglnjgllnaaTellR5
namespace Go.Proofs.Ytoplkglnjgllnaa
open Go.RowKit
set_option linter.unusedVariables false
set_option linter.unusedSimpArgs false

theorem layB_117 (l : List UInt8) : layB ⟨117, 0, 0, 0, 0, 0, [], ⟨false, 0, 0⟩, [], l, ⟨false, 0, 0⟩, 0, 0, []⟩ = le 4 l.length ++ l := by
  have h1 : partsM 117 = [7] := rfl
  simp [layB, layS, lay0, stepT, partB, h1]
theorem packL_len (k t : Nat) (b : List UInt8) : (packL k t b).length = 7 + b.length := by simp [packL, le_length]; omega

set_option maxRecDepth 200000 in
set_option maxHeartbeats 8000000 in
theorem tellRoom_walk (n tag code : Int) (w : World) (b0 : -9223372036854775808 ≤ n) (t0 : n ≤ 9223372036854775807) (b1 : -9223372036854775808 ≤ tag) (t1 : tag ≤ 9223372036854775807) (b2 : -9223372036854775808 ≤ code) (t2 : code ≤ 9223372036854775807) :
    Calls Try.prog 6 #[.int .i64 n, .int .i64 tag, .int .i64 code] w fun e w' => e = .returned (.bool true) ∧ Below w.heap.size w w' := by
  have hways : (decide ((24 : Int) < n) = true ∧ ∃ q : Int, n - 24 = q ∧ RowKit.wrap64 q = q ∧ (if n ≤ 24 then (0 : Int) else n - 24) = q) ∨ (decide ((24 : Int) < n) = false ∧ (if n ≤ 24 then (0 : Int) else n - 24) = 0) := by
    by_cases h : n ≤ 24
    · exact .inr ⟨decide_eq_false (by omega), if_pos h⟩
    · exact .inl ⟨decide_eq_true (by omega), n - 24, rfl, by unfold RowKit.wrap64; omega, if_neg h⟩
  rcases hways with ⟨hgt, q, hq, hqw, hroom⟩ | ⟨hgt, hroom⟩
  all_goals
    have HROOM := Lib.hid hroom
    clear hroom
    go_enter Try.func6, Try.ntmps6
    go_wp2_with fail
    refine (around_any n 1025 _ b0 t0 (by omega) (by omega)).mono ?_
    rintro e w1 ⟨k, _, hk, rfl, rfl⟩
    obtain ⟨m, hm⟩ : ∃ m : Nat, (24 : Int) + k = m := ⟨24 + k, by omega⟩
    have hm2 : (m : Int) - 24 = k := by omega
    have hmb : m ≤ 1048 := by omega
    have hm24 : 24 + k = m := by omega
    go_upto_region 5 with fail
    clear hm
    go_wp2_with fail
    refine (tRoom_any m _ (by omega) (by omega)).mono ?_
    rintro e w1 ⟨rfl, rfl⟩
    have hr : (if (m : Int) ≤ 24 then (0 : Int) else (m : Int) - 24) = k := by
      split <;> omega
    rw [hr]
    clear hr
    have hk0 : decide ((k : Int) < 0) = false := decide_eq_false (by omega)
    have hk1 : decide ((1024 : Int) < k) = false := decide_eq_false (by omega)
    go_wp2_with (refine wpList_makeB bytesElem rfl (.tmp 28) (.tmp 28) rfl .i64 .i64 k k rfl rfl (Nat.le_refl _) (by omega) w.heap.size (Nat.le_refl _) ?_; intro g1 l1 w1 hl1 hown1 hb1; simp only [Act.put, List.setIfInBounds_toArray, List.set_cons_succ, List.set_cons_zero])
    have hlen1 : l1.length = k := hown1.len
    refine (tWrite_any 117 0 0 0 0 0 [] false 0 0 [] l1 false 0 0 0 0 [] none 0 0 (some ⟨g1, 0, none⟩) k k w1 RdR.nil hown1.rd (by omega) (by omega) (by simp) (by simp) (by omega)).mono ?_
    rintro e w2 ⟨A, c1, c2, l2, er, hl2, her, rfl, hown2, hb2⟩
    have hok : layOk ⟨117, 0, 0, 0, 0, 0, [], ⟨false, 0, 0⟩, [], l1, ⟨false, 0, 0⟩, 0, 0, []⟩ = true := by rw [okM_117]; exact decide_eq_true (by omega)
    have he : er = 0 := by rw [her.out, if_pos hok]
    subst he
    have hln : c1 ≤ m := by
      rw [← hown2.len, hl2.out, if_pos hok, packL_len, layB_117, List.length_append, le_length]
      omega
    have hdl : decide (c1 ≤ m) = true := decide_eq_true hln
    have HB2 := Lib.hid (Up.trans hb1 hb2)
    clear hb1 hb2 hown1 hown2 hl1 hl2 her hok hlen1 hln hm24
    go_wp2_with fail
    refine (tRoom_any n _ b0 t0).mono ?_
    rintro e w3 ⟨rfl, rfl⟩
    rw [HROOM.out]
    go_wp2_with fail
    refine (tError_any tag code _).mono ?_
    rintro e w4 ⟨rfl, hb4⟩
    have HB4 := Lib.hid (Up.trans HB2.out hb4)
    clear hb4
    go_wp2_with fail
    refine (rsame_18 107 tag code 0 0 0 [] false 0 0 none 0 0 none 0 0 false 0 0 0 0 [] none 0 0 none 0 0 _ [] RdR.nil RdR.nil (by omega) [] RdB.nil RdB.nil).mono ?_
    rintro e w5 ⟨rfl, hb5⟩
    have HB5 := Lib.hid (Up.trans HB4.out hb5)
    clear hb5
    go_wp2_with fail
    refine (lives18_any _).mono ?_
    rintro e w6 ⟨rfl, hb6⟩
    have HB6 := Lib.hid (Up.trans HB5.out hb6)
    clear hb6
    go_wp2
    go_ret
    exact ⟨rfl, HB6.out⟩
end Go.Proofs.Ytoplkglnjgllnaa
