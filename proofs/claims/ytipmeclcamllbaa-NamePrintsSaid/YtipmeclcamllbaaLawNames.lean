/-
  Layer 9: the law NameNames, walked.
-/
import Derived.Test.YtipmeclcamllbaaNameC
import Derived.Test.YtipmeclcamllbaaFill
import Derived.Test.YtipmeclcamllbaaRegion
import Derived.Lib.SlBytesConst
import Derived.Deep.QuietTactic
import Derived.BigQuiet
namespace Go.Proofs.Ytipmeclcamllbaa
open Go.RowKit
set_option linter.unusedVariables false

theorem const1 (w : World) (C : Array Value) (n c : Nat) : (convert 26 26 (.slice (some ⟨w.heap.size, 0, none⟩) n c)).run Try.prog (w.alloc (.cells C 5)) = .ok (.slice (some ⟨w.heap.size, 0, none⟩) n c) (w.alloc (.cells C 5 (C.size, C.size + 1))) :=
  Lib.run_convert_bytes_const (P := Try.prog) w 26 5 C n c Try.underlying26 Try.underlying5
theorem str_of {w W : World} {n c : Nat} {A : Option Addr} {l : List UInt8} (h : RdB w w.heap.size A n l) (hb : Below w.heap.size w W) : (convert 26 9 (.slice A n c)).run Try.prog W = .ok (.string (st l)) W :=
  run_bytes_string _ _ _ Try.underlying26 Try.underlying5 Try.underlying9 (h.below hb)

theorem quiet_bool {f : FuncId} {args : Array Value} {w : World} {n : Nat} {b : Bool} (h : Calls Try.prog f args (w.drewN n) (BoolPost (w.drewN n) b)) : Calls Try.prog f args (w.drewN n) fun e w'' => e = .returned (.bool b) ∧ ∃ m, w'' = w.drewN m :=
  h.mono fun _ _ ⟨he, hm⟩ => ⟨he, n, hm.symm⟩

def NamesRel (w1 : World) (i : Value) (wr : World) : Prop := ∃ j : Nat, j ≤ 6 ∧ i = .int .i64 j ∧ Below w1.heap.size w1 wr

theorem strs6 (w : World) (a b c d e f : List UInt8) (t : TypeId) (m : Nat) (ha : a.length ≤ m) (hb : b.length ≤ m) (hc : c.length ≤ m) (hd : d.length ≤ m) (he : e.length ≤ m) (hf : f.length ≤ m) :
    ∀ j, j < 6 → ∃ x : List UInt8, x.length ≤ m ∧ (w.alloc (.cells #[.string (st a), .string (st b), .string (st c), .string (st d), .string (st e), .string (st f)] t)).cell? ⟨w.heap.size, j, none⟩ = some (.string (st x)) := by
  intro j hj
  have h : (w.alloc (.cells #[.string (st a), .string (st b), .string (st c), .string (st d), .string (st e), .string (st f)] t)).heap[w.heap.size]? = some (.cells #[.string (st a), .string (st b), .string (st c), .string (st d), .string (st e), .string (st f)] t) := heap_alloc_new w _
  simp only [World.cell?, h]
  match j, hj with
  | 0, _ => exact ⟨a, ha, rfl⟩
  | 1, _ => exact ⟨b, hb, rfl⟩
  | 2, _ => exact ⟨c, hc, rfl⟩
  | 3, _ => exact ⟨d, hd, rfl⟩
  | 4, _ => exact ⟨e, he, rfl⟩
  | 5, _ => exact ⟨f, hf, rfl⟩

set_option maxHeartbeats 2000000 in
theorem nameNames_walk (s : List UInt8) (c at_ m : Int) (w : World) (hs : s.length ≤ 9223372036854775807) (c0 : 0 ≤ c) (c1 : c ≤ 255) (a0 : -9223372036854775808 ≤ at_) (a1 : at_ ≤ 9223372036854775807) (m0 : -9223372036854775808 ≤ m) (m1 : m ≤ 9223372036854775807) :
    Calls Try.prog 4 #[.string (st s), .int .u8 c, .int .i64 at_, .int .i64 m] w fun e w' => e = .returned (.bool true) ∧ Below w.heap.size w w' := by
  have k1 := const1
  go_enter Try.func4, Try.ntmps4
  go_wp2_with fail
  refine (around_any m 36 _ m0 m1 (by omega) (by omega)).mono ?_
  rintro e w' ⟨k, hk, hkb, rfl, rfl⟩
  go_wp2_with fail
  rw [show ((1 : Int) + (k : Int)) = ((1 + k : Nat) : Int) from by omega]
  refine (fill_any _ 3 3 [97, 98, 46] (1 + k) _ ?_ (by omega) (by omega)).mono ?_
  · exact (RdB.new w [97, 98, 46] _ rfl _ _).more (by simp)
  rintro e w1 ⟨A, n, cc, l, hl, rfl, hown, hb1'⟩
  have hb1 : Below w.heap.size w w1 := ((Below.refl _ _).alloc (Nat.le_refl _) _).trans (hb1'.mono (by simp))
  have hn : n = 1 + k := by rw [← hown.len, hl.out, fillL_length]
  obtain ⟨g, rfl, hg1, hg2⟩ := hown.blk (by omega)
  have hnb : 1 ≤ n ∧ n ≤ 36 := by omega
  clear hb1' hn
  have hgw : w.heap.size ≤ g := by simp at hg1; omega
  go_wp2_with fail
  refine (around_any at_ n _ a0 a1 (by omega) (by omega)).mono ?_
  rintro e w' ⟨j, hj, hjb, rfl, rfl⟩
  obtain ⟨x, hx⟩ : ∃ x : UInt8, (x.toNat : Int) = c := ⟨UInt8.ofNat c.toNat, by simp; omega⟩
  obtain ⟨⟨u0, hc⟩, hf, hown2, hgr⟩ := Own.store hown j (by omega) (.int .u8 (x.toNat : Int))
  subst hx
  have hb2 : Below w.heap.size w (w1.setCell ⟨g, j, none⟩ (.int .u8 (x.toNat : Int))) := hb1.setCell hgw _
  have hown3 : OwB (w1.setCell ⟨g, j, none⟩ (.int .u8 (x.toNat : Int))) w.heap.size (some ⟨g, 0, none⟩) n cc (l.set j x) := by
    unfold OwB; rw [bv_set]; exact Own.lower hown2 (by simp)
  have hlb : (l.set j x).length ≤ 36 := by have := hown3.len; omega
  go_wp2
  generalize w1.setCell ⟨g, j, none⟩ (.int .u8 (x.toNat : Int)) = w3 at hb2 hown3 ⊢
  generalize l.set j x = lb at hown3 hlb
  clear hc hf hown2 hgr hown hb1 hg2
  have CV : Hid (∀ W : World, Below w3.heap.size w3 W → (convert 26 9 (.slice (some ⟨g, 0, none⟩) n cc)).run Try.prog W = .ok (.string (st lb)) W) := fun W hW => str_of hown3.rd hW
  obtain ⟨q, hq⟩ : ∃ q, q = s.take 50 := ⟨_, rfl⟩
  have hql : q.length ≤ 50 := by rw [hq, List.length_take]; omega
  have HQ := Lib.hid hq
  clear hq
  obtain ⟨f, hf1, hf2⟩ : ∃ f : Nat, (f : Int) = up0 m % 40 ∧ f < 40 := by
    refine ⟨(up0 m % 40).toNat, ?_, ?_⟩
    · have := Int.emod_nonneg (up0 m) (show (40 : Int) ≠ 0 by omega); omega
    · have := Int.emod_lt_of_pos (up0 m) (show (0 : Int) < 40 by omega); have := Int.emod_nonneg (up0 m) (show (40 : Int) ≠ 0 by omega); omega
  have HF := Lib.hid hf1
  clear hf1
  refine wp_region_held_drew (S := fun W => Below w3.heap.size w3 W) (by kernel_rfl) (Below.refl _ _).drew (fun hS => ?_)
  generalize w3.drew = w4 at hS ⊢
  refine rg_take (i := 0) (d := some 25) (v := .string (st s)) rfl rfl (by kernel_rfl) (by kernel_rfl) (by kernel_rfl) (fun _ _ _ h => h) hS (Or.inl ⟨rfl, fun W hW => Or.inl rfl⟩) ?_
  simp only [Act.put, List.setIfInBounds_toArray, List.set_cons_zero, List.set_cons_succ]
  refine rg_take (i := 1) (d := some 26) (v := .string (st q)) rfl rfl (by kernel_rfl) (by kernel_rfl) (by kernel_rfl) (fun _ _ _ h => h) hS (Or.inl ⟨rfl, fun W hW => Or.inr ⟨8, #[.string (st s), .int .i64 ((50 : Nat) : Int)], by go_simp, (short_any s 50 W (by omega) hs).mono fun e w' ⟨l', h1, h2, h3⟩ => ⟨by rw [h2, h1.out, HQ.out], h3⟩⟩⟩) ?_
  simp only [Act.put, List.setIfInBounds_toArray, List.set_cons_zero, List.set_cons_succ]
  refine rg_take (i := 2) (d := some 27) (v := .slice (some ⟨g, 0, none⟩) n cc) rfl rfl (by kernel_rfl) (by kernel_rfl) (by kernel_rfl) (fun _ _ _ h => h) hS (Or.inl ⟨rfl, fun W hW => Or.inl rfl⟩) ?_
  simp only [Act.put, List.setIfInBounds_toArray, List.set_cons_zero, List.set_cons_succ]
  refine rg_take (i := 3) (d := some 28) (v := .string (st lb)) rfl rfl (by kernel_rfl) (by kernel_rfl) (by kernel_rfl) (fun _ _ _ h => h) hS (Or.inl ⟨rfl, fun W hW => gives_convert _ _ _ rfl rfl (CV.out W hW)⟩) ?_
  simp only [Act.put, List.setIfInBounds_toArray, List.set_cons_zero, List.set_cons_succ]
  refine rg_take (i := 6) (d := some 31) (v := .int .i64 m) rfl rfl (by kernel_rfl) (by kernel_rfl) (by kernel_rfl) (fun _ _ _ h => h) hS (Or.inl ⟨rfl, fun W hW => Or.inl rfl⟩) ?_
  simp only [Act.put, List.setIfInBounds_toArray, List.set_cons_zero, List.set_cons_succ]
  refine rg_take (i := 7) (d := some 32) (v := .int .i64 f) rfl rfl (by kernel_rfl) (by kernel_rfl) (by kernel_rfl) (fun _ _ _ h => h) hS (Or.inl ⟨rfl, fun W hW => Or.inr ⟨12, #[.int .i64 m, .int .i64 ((40 : Nat) : Int)], by go_simp, (around_any m 40 W m0 m1 (by omega) (by omega)).mono fun e w' ⟨k', h1, _, h2, h3⟩ => ⟨by rw [h2, h1.out, HF.out]; rfl, h3⟩⟩⟩) ?_
  simp only [Act.put, List.setIfInBounds_toArray, List.set_cons_zero, List.set_cons_succ]
  refine rg_run (i := 4) (d := some 29) rfl rfl rfl (by kernel_rfl) (.slice (some ⟨w4.heap.size, 0, none⟩) 1 1) (w4.alloc (.cells #[.int .u8 120] 5)) (by go_simp) (hS.alloc hS.size _) ?_
  simp only [Act.put, List.setIfInBounds_toArray, List.set_cons_zero, List.set_cons_succ]
  refine rg_run (i := 5) (d := some 30) rfl rfl rfl (by kernel_rfl) (.slice (some ⟨w4.heap.size, 0, none⟩) 1 1) (w4.alloc (.cells #[.int .u8 120] 5 (1, 2))) (run_convert_op _ _ _ rfl rfl (const1 w4 _ 1 1)) (hS.alloc hS.size _) ?_
  simp only [Act.put, List.setIfInBounds_toArray, List.set_cons_zero, List.set_cons_succ]
  have hS5 : Below w3.heap.size w3 (w4.alloc (.cells #[.int .u8 120] 5 (1, 2))) := hS.alloc hS.size _
  have hr5 : RdB (w4.alloc (.cells #[.int .u8 120] 5 (1, 2))) (w4.alloc (.cells #[.int .u8 120] 5 (1, 2))).heap.size (some ⟨w4.heap.size, 0, none⟩) 1 [120] := (RdB.new w4 [120] _ rfl _ _).more (by simp)
  generalize w4.alloc (.cells #[.int .u8 120] 5 (1, 2)) = w5 at hS5 hr5 ⊢
  refine rg_call (i := 8) (d := some 33) rfl rfl rfl (by kernel_rfl) 11 #[.slice (some ⟨w4.heap.size, 0, none⟩) 1 1, .int .i64 f] (by go_simp) (fill_any _ 1 1 [120] f w5 hr5 (by omega) (by omega)) ?_
  rintro e w6 ⟨A6, n6, c6, l6, hl6, rfl, hown6, hb6⟩
  have hS6 : Below w3.heap.size w3 w6 := Up.trans hS5 hb6
  refine ⟨_, rfl, hS6, ?_⟩
  simp only [Act.put, List.setIfInBounds_toArray, List.set_cons_zero, List.set_cons_succ]
  refine rg_run (i := 9) (d := some 34) rfl rfl rfl (by kernel_rfl) (.string (st l6)) w6 (run_convert_op _ _ _ rfl rfl (str_of hown6.rd (Below.refl _ _))) hS6 ?_
  simp only [Act.put, List.setIfInBounds_toArray, List.set_cons_zero, List.set_cons_succ]
  refine rg_run (i := 10) (d := some 35) rfl rfl rfl (by kernel_rfl) (.slice (some ⟨w6.heap.size, 0, none⟩) 6 6) (w6.alloc (.cells #[.string (st q), .string (st lb), .string (st l6), .string (st [46]), .string (st [46, 46]), .string (st [46, 46, 46])] 9)) (by go_simp; rfl) (hS6.alloc hS6.size _) ?_
  simp only [Act.put, List.setIfInBounds_toArray, List.set_cons_zero, List.set_cons_succ]
  refine rg_run (i := 11) (d := some 10) rfl rfl rfl (by kernel_rfl) (.slice (some ⟨w6.heap.size, 0, none⟩) 6 6) (w6.alloc (.cells #[.string (st q), .string (st lb), .string (st l6), .string (st [46]), .string (st [46, 46]), .string (st [46, 46, 46])] 9)) rfl (hS6.alloc hS6.size _) ?_
  simp only [Act.put, List.setIfInBounds_toArray, List.set_cons_zero, List.set_cons_succ]
  refine wpAnyH_done (by kernel_rfl) ?_ _
  have hl6 : l6.length ≤ 65536 := by rw [hl6.out, fillL_length]; omega
  have hcells := strs6 w6 q lb l6 [46] [46, 46] [46, 46, 46] 9 65536 (by omega) (by omega) hl6 (by simp) (by simp) (by simp)
  have hb7 := Up.trans hb2 (hS6.alloc hS6.size (.cells #[.string (st q), .string (st lb), .string (st l6), .string (st [46]), .string (st [46, 46]), .string (st [46, 46, 46])] 9))
  have hs7 : (w6.alloc (.cells #[.string (st q), .string (st lb), .string (st l6), .string (st [46]), .string (st [46, 46]), .string (st [46, 46, 46])] 9)).heap.size = w6.heap.size + 1 := by simp
  generalize w6.alloc (.cells #[.string (st q), .string (st lb), .string (st l6), .string (st [46]), .string (st [46, 46]), .string (st [46, 46, 46])] 9) = w7 at hcells hb7 hs7 ⊢
  have HC := Lib.hid hcells
  have HS := Lib.hid hs7
  clear hcells hs7 hS hS5 hS6 hb6 hb2 hown6 hr5 CV hown3
  go_wp2
  go_loopw [11] (fun i wr => NamesRel w7 i wr) (fun i _ => 6 - (intOf i).toNat)
  case atStart => exact ⟨0, by omega, rfl, Below.refl _ _⟩
  case round =>
    obtain ⟨i, hi, rfl, hbw⟩ := hrel
    by_cases hlt : i < 6
    · obtain ⟨y, hyl, hcell⟩ := HC.out i hlt
      have hcr : wr.cell? ⟨w6.heap.size, i, none⟩ = some (.string (st y)) := by
        rw [hbw.cell (by show w6.heap.size < _; rw [HS.out]; omega)]; exact hcell
      have hi6 : (i : Int) < 6 := by omega
      go_wp2
      go_quiet ((first | (go_at_call 13; exact quiet_bool (name_any y _ hyl)) | (go_at_call 14; exact quiet_bool (refName_any y _ hyl)) | (go_at_call 15; exact quiet_bool (step_any y _ hyl)) | (go_at_call 16; exact quiet_bool (refStep_any y _ hyl))))
      go_wp2
      go_roundw
      case rel => exact ⟨i + 1, by omega, by go_num, below_drewN hbw _⟩
      case measure => simp [intOf]; omega
    · go_wp2_with fail
      refine (lives_any _).mono ?_
      rintro e w8 ⟨rfl, hb8⟩
      go_wp2
      go_ret
      exact ⟨rfl, Up.trans hb7 (Up.trans hbw hb8)⟩
end Go.Proofs.Ytipmeclcamllbaa
