/-
  Layer 19: the law StatPerms, walked.
-/
import Derived.Test.YtanafeeekofejaaStatB
namespace Go.Proofs.Ytanafeeekofejaa
open Go.RowKit
set_option linter.unusedVariables false

theorem cell4I (w : World) (a b c d : Int) (t : TypeId) (P : Int → Prop) (ha : P a) (hb : P b) (hc : P c) (hd : P d) :
    ∀ j, j < 4 → ∃ o, P o ∧ (w.alloc (.cells #[.int .i64 a, .int .i64 b, .int .i64 c, .int .i64 d] t)).cell? ⟨w.heap.size, j, none⟩ = some (.int .i64 o) := by
  intro j hj
  have h : (w.alloc (.cells #[.int .i64 a, .int .i64 b, .int .i64 c, .int .i64 d] t)).heap[w.heap.size]? = some (.cells #[.int .i64 a, .int .i64 b, .int .i64 c, .int .i64 d] t) := heap_alloc_new w _
  simp only [World.cell?, h]
  match j, hj with
  | 0, _ => exact ⟨a, ha, rfl⟩
  | 1, _ => exact ⟨b, hb, rfl⟩
  | 2, _ => exact ⟨c, hc, rfl⟩
  | 3, _ => exact ⟨d, hd, rfl⟩

set_option maxHeartbeats 1000000 in
theorem statPerms_walk (p : Int) (w : World) (h0 : -9223372036854775808 ≤ p) (h1 : p ≤ 9223372036854775807) :
    Calls Try.prog 3 #[.int .i64 p] w fun e w' => e = .returned (.bool true) ∧ Below w.heap.size w w' := by
  go_enter Try.func3, Try.ntmps3
  go_wp2_with fail
  refine (around_any p 1024 _ h0 h1 (by omega) (by omega)).mono ?_
  rintro e w' ⟨k, hk, hkm, rfl, rfl⟩
  have hc := cell4I w p k (2147483648 + k) (1073741824 + k) 3 (fun o => -9223372036854775808 ≤ o ∧ o ≤ 9223372036854775807) ⟨h0, h1⟩ (by omega) (by omega) (by omega)
  have hb0 : Below w.heap.size w (w.alloc (.cells #[.int .i64 p, .int .i64 k, .int .i64 (2147483648 + k), .int .i64 (1073741824 + k)] 3)) := (Below.refl _ _).alloc (Nat.le_refl _) _
  have hs0 : w.heap.size < (w.alloc (.cells #[.int .i64 p, .int .i64 k, .int .i64 (2147483648 + k), .int .i64 (1073741824 + k)] 3)).heap.size := by simp
  go_wp2
  generalize w.alloc (.cells #[.int .i64 p, .int .i64 k, .int .i64 (2147483648 + k), .int .i64 (1073741824 + k)] 3) = w1 at hc hb0 hs0
  have HC := Lib.hid hc
  clear hc
  go_loopw [5] (fun i wr => RoundRel 4 w1 i wr) (fun i _ => 4 - (intOf i).toNat)
  case atStart => exact ⟨0, by omega, rfl, Below.refl _ _⟩
  case round =>
    obtain ⟨j, hj, rfl, hbw⟩ := hrel
    by_cases hlt : j < 4
    · obtain ⟨o, ⟨ho0, ho1⟩, hcell⟩ := HC.out j hlt
      have hcr : wr.cell? ⟨w.heap.size, j, none⟩ = some (.int .i64 o) := cell_later hbw hcell
      have hj4 : (j : Int) < 4 := by omega
      clear hcell
      go_wp2_with fail
      refine (perm_any o _ ho0 ho1).mono ?_
      rintro e w' ⟨rfl, rfl⟩
      go_wp2_with fail
      refine (refPerm_any o _ ho0 ho1).mono ?_
      rintro e w' ⟨rfl, rfl⟩
      cases hk : permOk o with
      | false =>
        have hE : permE o = 19 := by unfold permE; rw [hk]; rfl
        rw [hE]
        generalize permM o = M
        generalize permD o = D
        clear hk hE
        go_wp2
        go_roundw
        case rel => exact ⟨j + 1, by omega, by go_num, hbw⟩
        case measure => simp [intOf]; omega
      | true =>
        have hE : permE o = 0 := by unfold permE; rw [hk]; rfl
        rw [hE]
        generalize permM o = M
        generalize permD o = D
        clear hk hE
        go_wp2
        go_roundw
        case rel => exact ⟨j + 1, by omega, by go_num, hbw⟩
        case measure => simp [intOf]; omega
    · have hj4 : ¬ (j : Int) < 4 := by omega
      go_wp2_with fail
      refine (lives_any _).mono ?_
      rintro e w2 ⟨rfl, hb2⟩
      go_wp2
      go_ret
      exact ⟨rfl, Up.trans hb0 (Up.trans hbw hb2)⟩
end Go.Proofs.Ytanafeeekofejaa
