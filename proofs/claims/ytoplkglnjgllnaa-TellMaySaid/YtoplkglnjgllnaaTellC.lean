/-
  Layer 18's helper good: a qid made of any.
-/
import Derived.Test.YtoplkglnjgllnaaTellB
import Derived.Test.YtoplkglnjgllnaaPlan4
import Derived.Deep.CutBlock
namespace Go.Proofs.Ytoplkglnjgllnaa
open Go.RowKit
set_option linter.unusedVariables false
set_option linter.unusedSimpArgs false

theorem tAround_det (n : Int) (m : Nat) (w : World) (h0 : -9223372036854775808 ≤ n) (h1 : n ≤ 9223372036854775807) (hm : 1 ≤ m) (hm2 : m ≤ 9223372036854775807) :
    Calls Try.prog 20 #[.int .i64 n, .int .i64 m] w fun e w' => e = .returned (.int .i64 (up0 n % m)) ∧ w = w' := by
  refine (around_any n m w h0 h1 hm hm2).mono ?_
  rintro e w' ⟨k, hk, _, rfl, rfl⟩
  exact ⟨by rw [hk.out], rfl⟩
theorem tLow_det (n : Int) (w : World) (h : -9223372036854775808 ≤ n ∧ n ≤ 9223372036854775807) :
    Calls Try.prog 27 #[.int .i64 n] w fun e w' => e = .returned (.int .i64 (up0 n % 4294967296)) ∧ w = w' := by
  refine (tLow_any n w h.1 h.2).mono ?_
  rintro e w' ⟨k, hk, _, rfl, rfl⟩
  exact ⟨by rw [hk.out], rfl⟩
theorem tHigh_det (n : Int) (w : World) (h : -9223372036854775808 ≤ n ∧ n ≤ 9223372036854775807) :
    Calls Try.prog 30 #[.int .i64 n] w fun e w' => e = .returned (.int .i64 (up0 n % 4611686018427387905)) ∧ w = w' := by
  refine (tHigh_any n w h.1 h.2).mono ?_
  rintro e w' ⟨k, hk, _, rfl, rfl⟩
  exact ⟨by rw [hk.out], rfl⟩

/-- A qid made of any. -/
def goodQ (q : QidV) : QidV := ⟨q.dir, up0 q.ver % 4294967296, up0 q.path % 4611686018427387905⟩
def QidIn (q : QidV) : Prop := (-9223372036854775808 ≤ q.ver ∧ q.ver ≤ 9223372036854775807) ∧ (-9223372036854775808 ≤ q.path ∧ q.path ≤ 9223372036854775807)

theorem goodQ_any (q : QidV) (w : World) (h : QidIn q) :
    Calls Try.prog 28 #[.agg #[.bool q.dir, .int .i64 q.ver, .int .i64 q.path]] w fun e w' => e = .returned (.agg #[.bool (goodQ q).dir, .int .i64 (goodQ q).ver, .int .i64 (goodQ q).path]) ∧ Below w.heap.size w w' := by
  obtain ⟨d, v, p⟩ := q
  obtain ⟨hv, hp⟩ := h
  obtain ⟨x, hx⟩ : ∃ x, Hid (x = up0 v % 4294967296) := ⟨_, Lib.hid rfl⟩
  obtain ⟨y, hy⟩ : ∃ x, Hid (x = up0 p % 4611686018427387905) := ⟨_, Lib.hid rfl⟩
  simp only [goodQ]
  rw [← hx.out, ← hy.out]
  have hv' : -9223372036854775808 ≤ v ∧ v ≤ 9223372036854775807 := hv
  have hp' : -9223372036854775808 ≤ p ∧ p ≤ 9223372036854775807 := hp
  have hA0 := Blk.new w 23 [.bool d, .int .i64 v, .int .i64 p]
  have hZ0 := Blk.new (w.alloc (.cells #[.bool d, .int .i64 v, .int .i64 p] 23)) 23 [.bool false, .int .i64 0, .int .i64 0]
  obtain ⟨W, hW⟩ : ∃ x, x = (w.alloc (.cells #[.bool d, .int .i64 v, .int .i64 p] 23)).alloc (.cells #[.bool false, .int .i64 0, .int .i64 0] 23) := ⟨_, rfl⟩
  have hA : Blk W w.heap.size 23 [.bool d, .int .i64 v, .int .i64 p] := by rw [hW]; exact hA0.alloc _
  have hZ : Blk W (w.heap.size + 1) 23 [.bool false, .int .i64 0, .int .i64 0] := by rw [hW]; simpa using hZ0
  have hb : Below w.heap.size w W := by rw [hW]; exact ((Below.refl _ _).alloc (Nat.le_refl _) _).alloc (by simp) _
  clear hA0 hZ0 hv hp
  go_enter Try.func28, Try.ntmps28
  go_upto_region 1 with fail
  rw [← hW]
  clear hW
  have hA' := hA.drew
  have hZ' := hZ.drew
  refine wp_region_tq (Is (w.heap.size + 1)) (.t 0 (.t 1 (.t 2 (.t 3 (.t 5 (.t 6 (.q 4 (.q 7 (.q 8 (.s 9 .nil)))))))))) (by kernel_rfl) (by kernel_rfl) ?_
  have a0 := cell_abv (G := Is (w.heap.size + 1)) (hA'.cell 0 _ rfl) (fun h => by have h' : w.heap.size = w.heap.size + 1 := h; omega)
  have a1 := cell_abv (G := Is (w.heap.size + 1)) (hA'.cell 1 _ rfl) (fun h => by have h' : w.heap.size = w.heap.size + 1 := h; omega)
  have a2 := cell_abv (G := Is (w.heap.size + 1)) (hA'.cell 2 _ rfl) (fun h => by have h' : w.heap.size = w.heap.size + 1 := h; omega)
  repeat (refine tq_take (by simp only [List.getElem?_toArray, List.getElem?_cons_succ, List.getElem?_cons_zero]; exact rfl) ?_; go_big_quiet_step (fail); refine wpQuiet_nil ?_)
  refine tq_call (d := some 7) (by simp only [List.getElem?_toArray, List.getElem?_cons_succ, List.getElem?_cons_zero]; exact rfl) rfl rfl 27 #[.int .i64 v] (.int .i64 x) (fun W => by go_simp) (fun W _ => by have := tLow_det v W hv'; rw [hx.out]; exact this) ?_
  simp only [Act.put, List.setIfInBounds_toArray, List.set_cons_succ, List.set_cons_zero]
  refine tq_call (d := some 10) (by simp only [List.getElem?_toArray, List.getElem?_cons_succ, List.getElem?_cons_zero]; exact rfl) rfl rfl 30 #[.int .i64 p] (.int .i64 y) (fun W => by go_simp) (fun W _ => by have := tHigh_det p W hp'; rw [hy.out]; exact this) ?_
  simp only [Act.put, List.setIfInBounds_toArray, List.set_cons_succ, List.set_cons_zero]
  refine tq_val (d := some 11) (by simp only [List.getElem?_toArray, List.getElem?_cons_succ, List.getElem?_cons_zero]; exact rfl) rfl rfl (.agg #[.bool d, .int .i64 x, .int .i64 y]) (fun W => by go_simp) ?_
  simp only [Act.put, List.setIfInBounds_toArray, List.set_cons_succ, List.set_cons_zero]
  refine tq_solo (by simp only [List.getElem?_toArray, List.getElem?_cons_succ, List.getElem?_cons_zero]; exact rfl) ?_
  go_wp2_with (refine wpList_storeBlk rfl (.tmp 2) (.tmp 11) rfl rfl [.bool d, .int .i64 x, .int .i64 y] rfl rfl (by kernel_rfl) hZ' rfl (by simp [Value.oneCell']) ?_)
  refine Solo.mk (keeps_setRow _ _) ?_
  refine tq_end ?_
  have hF := hZ'.setRow [.bool d, .int .i64 x, .int .i64 y]
  have z0 := hF.cell 0 _ rfl
  have z1 := hF.cell 1 _ rfl
  have z2 := hF.cell 2 _ rfl
  go_wp2
  exact bodyPost_ret (v := .agg #[.bool d, .int .i64 x, .int .i64 y]) (by simp [results, Try.results28, go_sem, z0, z1, z2]) rfl ⟨rfl, below_setRow hb.drew (by omega) _⟩
end Go.Proofs.Ytoplkglnjgllnaa
