/-
  Layer 9: the law NamePrints, walked.
-/
import Derived.Test.YtipmeclcamllbaaNameE
import Derived.Test.YtipmeclcamllbaaLawNames
namespace Go.Proofs.Ytipmeclcamllbaa
open Go.RowKit
set_option linter.unusedVariables false

theorem hexd_print (n : Nat) (h : n < 16) : 33 ≤ (hexd n).toNat ∧ (hexd n).toNat ≤ 126 := by
  have : ∀ n : Fin 16, 33 ≤ (hexd n.val).toNat ∧ (hexd n.val).toNat ≤ 126 := by decide
  exact this ⟨n, h⟩
theorem pb_print (c d : UInt8) (h : d ∈ pb c) : 33 ≤ d.toNat ∧ d.toNat ≤ 126 := by
  have hc := c.toNat_lt
  unfold pb at h
  split at h
  · rename_i hp
    unfold plainB at hp
    simp at hp h
    subst h
    omega
  · simp at h
    rcases h with rfl | rfl | rfl
    · decide
    · exact hexd_print _ (by omega)
    · exact hexd_print _ (by omega)
theorem prt_print (l : List UInt8) (d : UInt8) (h : d ∈ prt l) : 33 ≤ d.toNat ∧ d.toNat ≤ 126 := by
  unfold prt at h
  split at h
  · simp at h; subst h; decide
  · split at h
    · simp at h; rcases h with rfl | rfl | rfl <;> decide
    · obtain ⟨c, _, hd⟩ := List.mem_flatMap.1 h
      exact pb_print c d hd

def BytesRel (n : Nat) (i : Value) : Prop := ∃ j : Nat, j ≤ n ∧ i = .int .i64 j

set_option maxHeartbeats 2000000 in
theorem namePrints_walk (s : List UInt8) (c : Int) (w : World) (hs : s.length ≤ 9223372036854775807) (c0 : 0 ≤ c) (c1 : c ≤ 255) :
    Calls Try.prog 6 #[.string (st s), .int .u8 c] w fun e w' => e = .returned (.bool true) ∧ Below w.heap.size w w' := by
  obtain ⟨x, hx⟩ : ∃ x : UInt8, (x.toNat : Int) = c := ⟨UInt8.ofNat c.toNat, by simp; omega⟩
  subst hx
  obtain ⟨q, hq⟩ : ∃ q, q = s.take 40 := ⟨_, rfl⟩
  have hql : q.length ≤ 40 := by rw [hq, List.length_take]; omega
  have HQ := Lib.hid hq
  clear hq
  go_enter Try.func6, Try.ntmps6
  go_wp2
  refine wp_region_held_drew (S := fun W => Below w.heap.size w W) (by kernel_rfl) (Below.refl _ _).drew (fun hS => ?_)
  generalize w.drew = w4 at hS ⊢
  refine rg_take (i := 0) (d := some 11) (v := .string (st s)) rfl rfl (by kernel_rfl) (by kernel_rfl) (by kernel_rfl) (fun _ _ _ h => h) hS (Or.inl ⟨rfl, fun W hW => Or.inl rfl⟩) ?_
  simp only [Act.put, List.setIfInBounds_toArray, List.set_cons_zero, List.set_cons_succ]
  refine rg_take (i := 1) (d := some 12) (v := .string (st q)) rfl rfl (by kernel_rfl) (by kernel_rfl) (by kernel_rfl) (fun _ _ _ h => h) hS (Or.inl ⟨rfl, fun W hW => Or.inr ⟨8, #[.string (st s), .int .i64 ((40 : Nat) : Int)], by go_simp, (short_any s 40 W (by omega) hs).mono fun e w' ⟨l', h1, h2, h3⟩ => ⟨by rw [h2, h1.out, HQ.out], h3⟩⟩⟩) ?_
  simp only [Act.put, List.setIfInBounds_toArray, List.set_cons_zero, List.set_cons_succ]
  refine rg_take (i := 2) (d := some 13) (v := .int .u8 (x.toNat : Int)) rfl rfl (by kernel_rfl) (by kernel_rfl) (by kernel_rfl) (fun _ _ _ h => h) hS (Or.inl ⟨rfl, fun W hW => Or.inl rfl⟩) ?_
  simp only [Act.put, List.setIfInBounds_toArray, List.set_cons_zero, List.set_cons_succ]
  refine rg_run (i := 3) (d := some 14) rfl rfl rfl (by kernel_rfl) (.slice (some ⟨w4.heap.size, 0, none⟩) 1 1) (w4.alloc (.cells #[.int .u8 (x.toNat : Int)] 5)) (by go_simp) (hS.alloc hS.size _) ?_
  simp only [Act.put, List.setIfInBounds_toArray, List.set_cons_zero, List.set_cons_succ]
  have hr5 : RdB (w4.alloc (.cells #[.int .u8 (x.toNat : Int)] 5)) (w4.alloc (.cells #[.int .u8 (x.toNat : Int)] 5)).heap.size (some ⟨w4.heap.size, 0, none⟩) 1 [x] := (RdB.new w4 [x] _ rfl _ _).more (by simp)
  have hS5 : Below w.heap.size w (w4.alloc (.cells #[.int .u8 (x.toNat : Int)] 5)) := hS.alloc hS.size _
  generalize w4.alloc (.cells #[.int .u8 (x.toNat : Int)] 5) = w5 at hr5 hS5 ⊢
  refine rg_run (i := 4) (d := some 15) rfl rfl rfl (by kernel_rfl) (.string (st [x])) w5 (run_convert_op _ _ _ rfl rfl (str_of hr5 (Below.refl _ _))) hS5 ?_
  simp only [Act.put, List.setIfInBounds_toArray, List.set_cons_zero, List.set_cons_succ]
  refine rg_run (i := 5) (d := some 16) rfl rfl rfl (by kernel_rfl) (.slice (some ⟨w5.heap.size, 0, none⟩) 6 6) (w5.alloc (.cells #[.string (st q), .string (st [x]), .string (st []), .string (st [45]), .string (st [45, 45]), .string (st [37, 50, 100])] 9)) (by go_simp; rfl) (hS5.alloc hS5.size _) ?_
  simp only [Act.put, List.setIfInBounds_toArray, List.set_cons_zero, List.set_cons_succ]
  refine rg_run (i := 6) (d := some 5) rfl rfl rfl (by kernel_rfl) (.slice (some ⟨w5.heap.size, 0, none⟩) 6 6) (w5.alloc (.cells #[.string (st q), .string (st [x]), .string (st []), .string (st [45]), .string (st [45, 45]), .string (st [37, 50, 100])] 9)) rfl (hS5.alloc hS5.size _) ?_
  simp only [Act.put, List.setIfInBounds_toArray, List.set_cons_zero, List.set_cons_succ]
  refine wpAnyH_done (by kernel_rfl) ?_ _
  have hcells := strs6 w5 q [x] [] [45] [45, 45] [37, 50, 100] 9 64 (by omega) (by simp) (by simp) (by simp) (by simp) (by simp)
  have hb7 := hS5.alloc hS5.size (.cells #[.string (st q), .string (st [x]), .string (st []), .string (st [45]), .string (st [45, 45]), .string (st [37, 50, 100])] 9)
  have hs7 : (w5.alloc (.cells #[.string (st q), .string (st [x]), .string (st []), .string (st [45]), .string (st [45, 45]), .string (st [37, 50, 100])] 9)).heap.size = w5.heap.size + 1 := by simp
  generalize w5.alloc (.cells #[.string (st q), .string (st [x]), .string (st []), .string (st [45]), .string (st [45, 45]), .string (st [37, 50, 100])] 9) = w7 at hcells hb7 hs7 ⊢
  have HC := Lib.hid hcells
  have HS := Lib.hid hs7
  clear hcells hs7 hS hS5 hr5
  go_wp2
  go_loopw [6] (fun i wr => NamesRel w7 i wr) (fun i _ => 6 - (intOf i).toNat)
  case atStart => exact ⟨0, by omega, rfl, Below.refl _ _⟩
  case round =>
    obtain ⟨i, hi, rfl, hbw⟩ := hrel
    by_cases hlt : i < 6
    · obtain ⟨y, hyl, hcell⟩ := HC.out i hlt
      have hlt7 : w5.heap.size < w7.heap.size := by have := HS.out; omega
      have hcr : wr.cell? ⟨w5.heap.size, i, none⟩ = some (.string (st y)) := by
        rw [hbw.cell hlt7]; exact hcell
      have hi6 : (i : Int) < 6 := by omega
      go_wp2_with fail
      refine (print_any y _ (by omega)).mono ?_
      rintro e w8 ⟨p, hp, rfl, hb8⟩
      have hpl : p.length ≤ 65536 := by rw [hp.out]; have := prt_le y; omega
      have hpp : ∀ d ∈ p, 33 ≤ d.toNat ∧ d.toNat ≤ 126 := by rw [hp.out]; exact prt_print y
      have HPP := Lib.hid hpp
      have hsc : scanR p = some y := by rw [hp.out]; exact scan_prt y
      have HSC := Lib.hid hsc
      clear hpp hsc
      go_wp2_with fail
      refine (scan_any p _ hpl).mono ?_
      rintro e w9 ⟨z, E, hz, hE, rfl, hb9⟩
      rw [HSC.out] at hz hE
      obtain rfl : z = y := hz.out
      obtain rfl : E = 0 := hE.out
      have hcr9 : w9.cell? ⟨w5.heap.size, i, none⟩ = some (.string (st z)) := by
        rw [(Up.trans hbw (Up.trans hb8 hb9)).cell hlt7]; exact hcell
      clear hz hE HSC
      go_wp2_with fail
      refine (refPrint_any z _ (by omega)).mono ?_
      rintro e w10 ⟨p2, hp2, rfl, hb10⟩
      obtain rfl : p = p2 := hp.out.trans hp2.out.symm
      have hbn := Up.trans hbw (Up.trans hb8 (Up.trans hb9 hb10))
      have hcr10 : w10.cell? ⟨w5.heap.size, i, none⟩ = some (.string (st z)) := by
        rw [hbn.cell hlt7]; exact hcell
      clear hp hp2 hb8 hb9 hb10 hcr hcr9
      go_wp2
      go_loop [10] (fun i => BytesRel p.length i) (fun i => p.length - (intOf i).toNat)
      case atStart => exact ⟨0, Nat.zero_le _, rfl⟩
      case round =>
        obtain ⟨k, hk, rfl⟩ := hrel
        by_cases hlt2 : k < p.length
        · obtain ⟨u, hu, hup⟩ : ∃ u : UInt8, (∀ h : k < (st p).size, (st p)[k]'h = u) ∧ (33 ≤ u.toNat ∧ u.toNat ≤ 126) := ⟨p[k], st_at p k hlt2, HPP.out _ (List.getElem_mem hlt2)⟩
          have t1 : decide ((u.toNat : Int) < 33) = false := by simp; omega
          have t2 : decide ((126 : Int) < u.toNat) = false := by simp; omega
          go_wp2
          go_round
          case rel => exact ⟨k + 1, by omega, by go_num⟩
          case measure => simp [intOf]; omega
        · have hd : decide (k < p.length) = false := by simp; omega
          go_wp2
          go_roundw
          case rel => exact ⟨i + 1, by omega, by go_num, hbn⟩
          case measure => simp [intOf]; omega
    · go_wp2_with fail
      refine (lives_any _).mono ?_
      rintro e w8 ⟨rfl, hb8⟩
      go_wp2
      go_ret
      exact ⟨rfl, Up.trans hb7 (Up.trans hbw hb8)⟩
end Go.Proofs.Ytipmeclcamllbaa
