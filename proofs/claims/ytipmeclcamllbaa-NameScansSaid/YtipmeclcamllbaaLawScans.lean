/-
  Layer 9: the law NameScans, walked.
-/
import Derived.Test.YtipmeclcamllbaaNameF
import Derived.Test.YtipmeclcamllbaaLawNames
namespace Go.Proofs.Ytipmeclcamllbaa
open Go.RowKit
set_option linter.unusedVariables false

def ScansRel (n : Nat) (w1 : World) (i : Value) (wr : World) : Prop := ∃ j : Nat, j ≤ n ∧ i = .int .i64 j ∧ Below w1.heap.size w1 wr

theorem strsL (w : World) (ls : List (List UInt8)) (t : TypeId) (m : Nat) (h : ∀ l ∈ ls, l.length ≤ m) :
    ∀ j, j < ls.length → ∃ x : List UInt8, x.length ≤ m ∧ (w.alloc (.cells (ls.map fun l => Value.string (st l)).toArray t)).cell? ⟨w.heap.size, j, none⟩ = some (.string (st x)) := by
  intro j hj
  have h0 : (w.alloc (.cells (ls.map fun l => Value.string (st l)).toArray t)).heap[w.heap.size]? = some (.cells (ls.map fun l => Value.string (st l)).toArray t) := heap_alloc_new w _
  refine ⟨ls[j], h _ (List.getElem_mem hj), ?_⟩
  simp only [World.cell?, h0]
  simp [hj]

set_option maxHeartbeats 2000000 in
theorem nameScans_walk (s t : List UInt8) (at_ c : Int) (w : World) (hs : s.length ≤ 9223372036854775807) (ht : t.length ≤ 9223372036854775807) (a0 : -9223372036854775808 ≤ at_) (a1 : at_ ≤ 9223372036854775807) (c0 : 0 ≤ c) (c1 : c ≤ 255) :
    Calls Try.prog 7 #[.string (st s), .string (st t), .int .i64 at_, .int .u8 c] w fun e w' => e = .returned (.bool true) ∧ Below w.heap.size w w' := by
  obtain ⟨x, hx⟩ : ∃ x : UInt8, (x.toNat : Int) = c := ⟨UInt8.ofNat c.toNat, by simp; omega⟩
  subst hx
  obtain ⟨q, hq⟩ : ∃ q, q = s.take 40 := ⟨_, rfl⟩
  have hql : q.length ≤ 40 := by rw [hq, List.length_take]; omega
  have HQ := Lib.hid hq
  clear hq
  go_enter Try.func7, Try.ntmps7
  go_wp2_with fail
  refine (short_any t 15 _ (by omega) ht).mono ?_
  rintro e w' ⟨y, hy, rfl, rfl⟩
  have hyl : y.length ≤ 15 := by rw [hy.out, List.length_take]; omega
  go_wp2_with fail
  refine (refPrint_any y _ (by omega)).mono ?_
  rintro e w1 ⟨p, hp, rfl, hb1⟩
  have hpl : 0 < p.length ∧ p.length ≤ 48 := by rw [hp.out]; have := prt_le y; have := prt_pos y; omega
  go_wp2_with (with_reducible refine wpList_stringB bytesElem Try.underlying5 rfl (.tmp 20) 9 Try.underlying9 rfl p rfl (by omega) w1.heap.size (Nat.le_refl _) ?_; intro g n0 cc w2 hn0 hown hb2)
  have hn : n0 ≤ 48 ∧ 0 < n0 := by have := hn0.out; omega
  refine (around_any at_ n0 _ a0 a1 (by omega) (by omega)).mono ?_
  rintro e w' ⟨k, hk, hkb, rfl, rfl⟩
  have hcc := hown.cap
  unfold maxLen at hcc
  have hcut := str_of (c := cc) (hown.rd.first (k := k) (by omega)) (Below.refl _ _)
  have hctl : (p.take k).length ≤ 48 := by rw [List.length_take]; omega
  generalize p.take k = ct at hcut hctl
  obtain ⟨⟨u0, hc⟩, hf, hown2, hgr⟩ := Own.store hown k (by omega) (.int .u8 (x.toNat : Int))
  have hb3 : Below w1.heap.size w1 (w2.setCell ⟨g, k, none⟩ (.int .u8 (x.toNat : Int))) := hb2.setCell (Own.lt hown g rfl).1 _
  have hown3 : OwB (w2.setCell ⟨g, k, none⟩ (.int .u8 (x.toNat : Int))) w1.heap.size (some ⟨g, 0, none⟩) n0 cc (p.set k x) := by
    unfold OwB; rw [bv_set]; exact hown2
  have hlb : (p.set k x).length ≤ 48 := by rw [List.length_set]; omega
  have hkn : (k : Int) < n0 := by omega
  have hkc : (k : Int) ≤ cc := by omega
  go_wp2
  generalize w2.setCell ⟨g, k, none⟩ (.int .u8 (x.toNat : Int)) = w3 at hb3 hown3 ⊢
  generalize p.set k x = lb at hown3 hlb
  clear hc hf hown2 hgr hown hb2 hcut
  refine wp_region_held_drew (S := fun W => Below w3.heap.size w3 W) (by kernel_rfl) (Below.refl _ _).drew (fun hS => ?_)
  generalize w3.drew = w4 at hS ⊢
  refine rg_take (i := 0) (d := some 34) (v := .string (st s)) rfl rfl (by kernel_rfl) (by kernel_rfl) (by kernel_rfl) (fun _ _ _ h => h) hS (Or.inl ⟨rfl, fun W hW => Or.inl rfl⟩) ?_
  simp only [Act.put, List.setIfInBounds_toArray, List.set_cons_zero, List.set_cons_succ]
  refine rg_take (i := 1) (d := some 35) (v := .string (st q)) rfl rfl (by kernel_rfl) (by kernel_rfl) (by kernel_rfl) (fun _ _ _ h => h) hS (Or.inl ⟨rfl, fun W hW => Or.inr ⟨8, #[.string (st s), .int .i64 ((40 : Nat) : Int)], by go_simp, (short_any s 40 W (by omega) hs).mono fun e w' ⟨l', h1, h2, h3⟩ => ⟨by rw [h2, h1.out, HQ.out], h3⟩⟩⟩) ?_
  simp only [Act.put, List.setIfInBounds_toArray, List.set_cons_zero, List.set_cons_succ]
  refine rg_take (i := 2) (d := some 36) (v := .string (st ct)) rfl rfl (by kernel_rfl) (by kernel_rfl) (by kernel_rfl) (fun _ _ _ h => h) hS (Or.inl ⟨rfl, fun W hW => Or.inl rfl⟩) ?_
  simp only [Act.put, List.setIfInBounds_toArray, List.set_cons_zero, List.set_cons_succ]
  refine rg_take (i := 3) (d := some 37) (v := .slice (some ⟨g, 0, none⟩) n0 cc) rfl rfl (by kernel_rfl) (by kernel_rfl) (by kernel_rfl) (fun _ _ _ h => h) hS (Or.inl ⟨rfl, fun W hW => Or.inl rfl⟩) ?_
  simp only [Act.put, List.setIfInBounds_toArray, List.set_cons_zero, List.set_cons_succ]
  refine rg_take (i := 4) (d := some 38) (v := .string (st lb)) rfl rfl (by kernel_rfl) (by kernel_rfl) (by kernel_rfl) (fun _ _ _ h => h) hS (Or.inl ⟨rfl, fun W hW => gives_convert _ _ _ rfl rfl (str_of hown3.rd hW)⟩) ?_
  simp only [Act.put, List.setIfInBounds_toArray, List.set_cons_zero, List.set_cons_succ]
  refine rg_run (i := 5) (d := some 39) rfl rfl rfl (by kernel_rfl) (.slice (some ⟨w4.heap.size, 0, none⟩) 10 10) (w4.alloc (.cells #[.string (st q), .string (st ct), .string (st lb), .string (st [37]), .string (st [37, 50]), .string (st [37, 50, 68]), .string (st [37, 52, 49]), .string (st [45]), .string (st [45, 45]), .string (st [])] 9)) (by go_simp; rfl) (hS.alloc hS.size _) ?_
  simp only [Act.put, List.setIfInBounds_toArray, List.set_cons_zero, List.set_cons_succ]
  refine rg_run (i := 6) (d := some 12) rfl rfl rfl (by kernel_rfl) (.slice (some ⟨w4.heap.size, 0, none⟩) 10 10) (w4.alloc (.cells #[.string (st q), .string (st ct), .string (st lb), .string (st [37]), .string (st [37, 50]), .string (st [37, 50, 68]), .string (st [37, 52, 49]), .string (st [45]), .string (st [45, 45]), .string (st [])] 9)) rfl (hS.alloc hS.size _) ?_
  simp only [Act.put, List.setIfInBounds_toArray, List.set_cons_zero, List.set_cons_succ]
  refine wpAnyH_done (by kernel_rfl) ?_ _
  have hcells := strsL w4 [q, ct, lb, [37], [37, 50], [37, 50, 68], [37, 52, 49], [45], [45, 45], []] 9 48 (by intro l hl; simp only [List.mem_cons, List.not_mem_nil, or_false] at hl; rcases hl with rfl | rfl | rfl | rfl | rfl | rfl | rfl | rfl | rfl | rfl <;> first | omega | (simp; done))
  have hb7 := Up.trans hb1 (Up.trans hb3 (hS.alloc hS.size (.cells #[.string (st q), .string (st ct), .string (st lb), .string (st [37]), .string (st [37, 50]), .string (st [37, 50, 68]), .string (st [37, 52, 49]), .string (st [45]), .string (st [45, 45]), .string (st [])] 9)))
  have hs7 : (w4.alloc (.cells #[.string (st q), .string (st ct), .string (st lb), .string (st [37]), .string (st [37, 50]), .string (st [37, 50, 68]), .string (st [37, 52, 49]), .string (st [45]), .string (st [45, 45]), .string (st [])] 9)).heap.size = w4.heap.size + 1 := by simp
  simp only [List.map_cons, List.map_nil] at hcells
  generalize w4.alloc (.cells #[.string (st q), .string (st ct), .string (st lb), .string (st [37]), .string (st [37, 50]), .string (st [37, 50, 68]), .string (st [37, 52, 49]), .string (st [45]), .string (st [45, 45]), .string (st [])] 9) = w7 at hcells hb7 hs7 ⊢
  have HC := Lib.hid hcells
  have HS := Lib.hid hs7
  clear hcells hs7 hS hown3 hb3
  go_wp2
  go_loopw [13] (fun i wr => ScansRel 10 w7 i wr) (fun i _ => 10 - (intOf i).toNat)
  case atStart => exact ⟨0, by omega, rfl, Below.refl _ _⟩
  case round =>
    obtain ⟨i, hi, rfl, hbw⟩ := hrel
    by_cases hlt : i < 10
    · obtain ⟨z, hzl, hcell⟩ := HC.out i hlt
      have hlt7 : w4.heap.size < w7.heap.size := by have := HS.out; omega
      have hcr : wr.cell? ⟨w4.heap.size, i, none⟩ = some (.string (st z)) := by
        rw [hbw.cell hlt7]; exact hcell
      have hi6 : (i : Int) < 10 := by omega
      go_wp2_with fail
      refine (scan_any z _ (by omega)).mono ?_
      rintro e w8 ⟨l1, E1, hl1, hE1, rfl, hb8⟩
      have hcr8 : w8.cell? ⟨w4.heap.size, i, none⟩ = some (.string (st z)) := by
        rw [(Up.trans hbw hb8).cell hlt7]; exact hcell
      clear hcr
      go_wp2_with fail
      refine (refScan_any z _ (by omega)).mono ?_
      rintro e w9 ⟨l2, E2, hl2, hE2, rfl, hb9⟩
      obtain rfl : l1 = l2 := hl1.out.trans hl2.out.symm
      obtain rfl : E1 = E2 := hE1.out.trans hE2.out.symm
      have hbn := Up.trans hbw (Up.trans hb8 hb9)
      clear hl1 hl2 hE1 hE2 hcr8 hb8 hb9
      go_wp2
      go_roundw
      case rel => exact ⟨i + 1, by omega, by go_num, hbn⟩
      case measure => simp [intOf]; omega
    · go_wp2_with fail
      refine (lives_any _).mono ?_
      rintro e w8 ⟨rfl, hb8⟩
      go_wp2
      go_ret
      exact ⟨rfl, Up.trans hb7 (Up.trans hbw hb8)⟩
end Go.Proofs.Ytipmeclcamllbaa
