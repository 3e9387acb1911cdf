/-
  Layer 9: the law NameChecks, walked.
-/
import Derived.Test.YtipmeclcamllbaaNameG
namespace Go.Proofs.Ytipmeclcamllbaa
open Go.RowKit
set_option linter.unusedVariables false

theorem strElem : Elem Try.prog 29 9 (.string (st [])) 1 16 := elem_of Try.underlying29 (by kernel_rfl) rfl (by omega)

def iv (zs : List Int) : List Value := zs.map (Value.int .i64)
theorem iv_at (zs : List Int) (k : Nat) : (iv zs)[k]? = (zs[k]?).map (Value.int .i64) := by simp [iv]

def CollRel (B : Nat) (w : World) (n0 : Nat) (v i : Value) (wr : World) : Prop :=
  ∃ (k n' c' : Nat) (A' : Option Addr) (os : List (List UInt8)), k ≤ n0 ∧ k ≤ 10 ∧ n' ≤ k ∧ i = .int .i64 k ∧ v = .slice A' n' c' ∧ (∀ l ∈ os, l.length ≤ 64) ∧ OwV wr B 9 A' n' c' (sv os) ∧ Below B w wr

def Item (W : World) (b k : Nat) : Prop := ∃ (A : Option Addr) (n c : Nat) (ls : List (List UInt8)), RdV W W.heap.size A n (sv ls) ∧ (∀ l ∈ ls, l.length ≤ 64) ∧ n ≤ 10 ∧ W.cell? ⟨b, k, none⟩ = some (.slice A n c)
theorem Item.up {W W' : World} {b k : Nat} (h : Item W b k) (hb : Below W.heap.size W W') (hlt : b < W.heap.size) : Item W' b k := by
  obtain ⟨A, n, c, ls, h1, h2, h3, h4⟩ := h
  exact ⟨A, n, c, ls, h1.up hb, h2, h3, by rw [hb.cell hlt]; exact h4⟩
theorem three (w : World) (t : TypeId) (A0 : Option Addr) (n0 c0 : Nat) (l0 : List (List UInt8)) (A1 : Option Addr) (n1 c1 : Nat) (l1 : List (List UInt8)) (A2 : Option Addr) (n2 c2 : Nat) (l2 : List (List UInt8))
    (r0 : RdV w w.heap.size A0 n0 (sv l0)) (b0 : ∀ l ∈ l0, l.length ≤ 64) (m0 : n0 ≤ 10) (r1 : RdV w w.heap.size A1 n1 (sv l1)) (b1 : ∀ l ∈ l1, l.length ≤ 64) (m1 : n1 ≤ 10) (r2 : RdV w w.heap.size A2 n2 (sv l2)) (b2 : ∀ l ∈ l2, l.length ≤ 64) (m2 : n2 ≤ 10) :
    ∀ i, i < 3 → Item (w.alloc (.cells #[.slice A0 n0 c0, .slice A1 n1 c1, .slice A2 n2 c2] t)) w.heap.size i := by
  intro i hi
  have hb : Below w.heap.size w (w.alloc (.cells #[.slice A0 n0 c0, .slice A1 n1 c1, .slice A2 n2 c2] t)) := (Below.refl _ _).alloc (Nat.le_refl _) _
  have h0 : (w.alloc (.cells #[.slice A0 n0 c0, .slice A1 n1 c1, .slice A2 n2 c2] t)).heap[w.heap.size]? = some (.cells #[.slice A0 n0 c0, .slice A1 n1 c1, .slice A2 n2 c2] t) := heap_alloc_new w _
  match i, hi with
  | 0, _ => exact ⟨A0, n0, c0, l0, r0.up hb, b0, m0, by simp only [World.cell?, h0]; simp⟩
  | 1, _ => exact ⟨A1, n1, c1, l1, r1.up hb, b1, m1, by simp only [World.cell?, h0]; simp⟩
  | 2, _ => exact ⟨A2, n2, c2, l2, r2.up hb, b2, m2, by simp only [World.cell?, h0]; simp⟩
def ThreeRel (w7 : World) (i : Value) (wr : World) : Prop := ∃ j : Nat, j ≤ 3 ∧ i = .int .i64 j ∧ Below w7.heap.size w7 wr

set_option maxHeartbeats 2000000 in
set_option maxRecDepth 100000 in
theorem nameChecks_walk (A0 : Option Addr) (n0 c0 : Nat) (ls : List (List UInt8)) (A1 : Option Addr) (n1 c1 : Nat) (zs : List Int) (at_ : Int) (s : List UInt8) (w : World)
    (h0 : RdV w w.heap.size A0 n0 (sv ls)) (hl0 : ∀ l ∈ ls, l.length ≤ 9223372036854775807) (hc0 : n0 ≤ 9223372036854775807) (h1 : RdV w w.heap.size A1 n1 (iv zs)) (hz : ∀ z ∈ zs, -9223372036854775808 ≤ z ∧ z ≤ 9223372036854775807) (hc1 : n1 ≤ 9223372036854775807)
    (a0 : -9223372036854775808 ≤ at_) (a1 : at_ ≤ 9223372036854775807) (hs : s.length ≤ 9223372036854775807) :
    Calls Try.prog 5 #[.slice A0 n0 c0, .slice A1 n1 c1, .int .i64 at_, .string (st s)] w fun e w' => e = .returned (.bool true) ∧ Below w.heap.size w w' := by
  have H0 := Lib.hid h0
  have H1 := Lib.hid h1
  have HL := Lib.hid hl0
  have HZ := Lib.hid hz
  clear h0 h1 hl0 hz
  go_enter Try.func5, Try.ntmps5
  go_wp2
  go_loopw [9, 10] (fun v i wr => CollRel w.heap.size w n0 v i wr) (fun _ i _ => 10 - (intOf i).toNat)
  case atStart => exact ⟨0, 0, 0, none, [], Nat.zero_le _, by omega, Nat.le_refl _, rfl, rfl, by simp, OwV.nil _ _ _, Below.refl _ _⟩
  case round =>
    obtain ⟨k, n', c', A', os, hk, hk10, hnk, rfl, rfl, hos, hown, hbw⟩ := hrel
    have hsz := hbw.size
    by_cases hlt : k < n0 ∧ k < 10
    · obtain ⟨b, off, u, rfl, hb, hu, hcell⟩ := H0.out.at_ hlt.1
      have hkl : k < ls.length := by have := H0.out.len; rw [sv_length] at this; omega
      rw [sv_at, List.getElem?_eq_getElem hkl] at hu
      obtain rfl : Value.string (st ls[k]) = u := by simpa using hu
      have hsl := HL.out ls[k] (List.getElem_mem hkl)
      generalize ls[k] = x at hcell hsl
      have hcr : wr.cell? ⟨b, off + k, none⟩ = some (.string (st x)) := by rw [hbw.cell hb]; exact hcell
      have t1 : decide (k < n0) = true := by simp; omega
      have t2 : decide ((k : Int) < 10) = true := by simp; omega
      clear hu hcell
      go_wp2_with fail
      refine (short_any x 40 _ (by omega) hsl).mono ?_
      rintro e w' ⟨y, hy, rfl, rfl⟩
      have hyl : y.length ≤ 64 := by rw [hy.out, List.length_take]; omega
      go_wp2_with (first
        | (at_builtin; go_must (refine wpList_appendV strElem rfl (.tmp 30) (.tmp 36) 29 rfl w.heap.size A' n' c' (sv os) rfl (hown.alloc _) _ rfl 1 (sv [y]) (Src.oneV _ _ _ Try.underlying29 (.string (st y)) rfl _) (by omega) (by omega) (by simp; omega) ?_); intro A3 n3 c3 l3 w3 hl3 hn3 hown3 hb3 hg3))
      have hn4 := hn3.out
      rw [← sv_append] at hl3
      obtain rfl := hl3.out
      go_roundw
      case rel =>
        refine ⟨k + 1, n3, c3, A3, os ++ [y], by omega, by omega, by omega, by go_num, rfl, ?_, hown3, (hbw.alloc hsz _).trans hb3⟩
        intro l hl
        rcases List.mem_append.1 hl with h | h
        · exact hos l h
        · simp at h; subst h; exact hyl
      case measure => simp [intOf]; omega
    · have t12 : (decide (k < n0) = false) ∨ (decide (k < n0) = true ∧ decide ((k : Int) < 10) = false) := by simp; omega
      have HOS := Lib.hid hos
      clear hos
      obtain ⟨w2, rfl⟩ : ∃ w2 : World, w2 = wr := ⟨_, rfl⟩
      rcases t12 with t1 | ⟨t1, t2⟩
      all_goals
        go_wp2
        go_loopw [11, 12] (fun v i wr => CollRel w2.heap.size w2 n1 v i wr) (fun _ i _ => 10 - (intOf i).toNat)
        case atStart => exact ⟨0, 0, 0, none, [], Nat.zero_le _, by omega, Nat.le_refl _, rfl, rfl, by simp, OwV.nil _ _ _, Below.refl _ _⟩
        case round =>
          obtain ⟨j, m', d', B', qs, hj, hj10, hmj, rfl, rfl, hqs, hownq, hbq⟩ := hrel
          have hszq := hbq.size
          by_cases hltq : j < n1 ∧ j < 10
          · obtain ⟨b, off, u, rfl, hb, hu, hcell⟩ := H1.out.at_ hltq.1
            have hkl : j < zs.length := by have := H1.out.len; simp [iv] at this; omega
            rw [iv_at, List.getElem?_eq_getElem hkl] at hu
            obtain rfl : Value.int .i64 zs[j] = u := by simpa using hu
            have hzb := HZ.out zs[j] (List.getElem_mem hkl)
            generalize zs[j] = x at hcell hzb
            have hcr : wr.cell? ⟨b, off + j, none⟩ = some (.int .i64 x) := by rw [(Up.trans hbw hbq).cell hb]; exact hcell
            have q1 : decide (j < n1) = true := by simp; omega
            have q2 : decide ((j : Int) < 10) = true := by simp; omega
            clear hu hcell
            go_wp2_with fail
            refine (of_any x _ hzb.1 hzb.2).mono ?_
            rintro e wy ⟨y, hyl, rfl, hby⟩
            have hszy := hby.size
            go_wp2_with (first
              | (at_builtin; go_must (refine wpList_appendV strElem rfl (.tmp 48) (.tmp 54) 29 rfl w2.heap.size B' m' d' (sv qs) rfl ((hownq.up hby).alloc _) _ rfl 1 (sv [y]) (Src.oneV _ _ _ Try.underlying29 (.string (st y)) rfl _) (by omega) (by omega) (by simp; omega) ?_); intro A3 n3 c3 l3 w3 hl3 hn3 hown3 hb3 hg3))
            have hn4 := hn3.out
            rw [← sv_append] at hl3
            obtain rfl := hl3.out
            go_roundw
            case rel =>
              refine ⟨j + 1, n3, c3, A3, qs ++ [y], by omega, by omega, by omega, by go_num, rfl, ?_, hown3, ((Up.trans hbq hby).alloc (Nat.le_trans hszq hszy) _).trans hb3⟩
              intro l hl
              rcases List.mem_append.1 hl with h | h
              · exact hqs l h
              · simp at h; subst h; exact hyl
            case measure => simp [intOf]; omega
          · have q12 : (decide (j < n1) = false) ∨ (decide (j < n1) = true ∧ decide ((j : Int) < 10) = false) := by simp; omega
            have HQS := Lib.hid hqs
            clear hqs
            obtain ⟨w4, rfl⟩ : ∃ w4 : World, w4 = wr := ⟨_, rfl⟩
            have hsrc := (hownq.rd).src (P := Try.prog) (c := d') 29 9 Try.underlying29 (sv_one qs)
            have HSRC := Lib.hid hsrc
            clear hsrc
            have hr1 : RdV w4 w4.heap.size A' n' (sv os) := (hown.rd).up hbq
            have hr2 : RdV w4 w4.heap.size B' m' (sv qs) := hownq.rd
            have hb4 : Below w.heap.size w w4 := Up.trans hbw hbq
            have hn10 : n' ≤ 10 := by omega
            have hm10 : m' ≤ 10 := by omega
            rcases q12 with q1 | ⟨q1, q2⟩
            all_goals
              rcases Nat.eq_zero_or_pos m' with hm0 | hm0
              · subst hm0
                go_wp2_with (first
                  | (at_builtin; go_must (refine wpList_appendV strElem rfl (.tmp 56) (.tmp 57) 29 rfl w4.heap.size none 0 0 [] rfl (OwV.nil _ _ _) _ rfl 0 (sv qs) HSRC.out (by omega) (by omega) (Nat.le_refl _) ?_); intro A5 n5 c5 l5 w5 hl5 hn5 hown5 hb5 hg5; have z1 : decide (0 < n5) = false := (by have := hn5.out; simp; omega); have z2 : decide ((0 : Int) < n5) = false := (by have := hn5.out; simp; omega)))
                obtain ⟨rs, hrs0⟩ : ∃ rs, rs = qs := ⟨_, rfl⟩
                have hr1' := hr1.up hb5
                have hr2' := hr2.up hb5
                have hr3 : RdV w5 w5.heap.size A5 n5 (sv rs) := by have h := hown5.rd; rw [hl5.out, List.nil_append] at h; rw [hrs0]; exact h
                have hrs : ∀ l ∈ rs, l.length ≤ 64 := by rw [hrs0]; exact HQS.out
                have hn510 : n5 ≤ 10 := by have := hn5.out; omega
                have hb6 : Below w.heap.size w w5 := Up.trans hb4 hb5
                clear hrs0
                have hcells := three w5 29 A' n' c' os B' 0 d' qs A5 n5 c5 rs hr1' HOS.out hn10 hr2' HQS.out hm10 hr3 hrs hn510
                have hb7 : Below w.heap.size w (w5.alloc (.cells #[.slice A' n' c', .slice B' 0 d', .slice A5 n5 c5] 29)) := hb6.alloc hb6.size _
                have hs7 : (w5.alloc (.cells #[.slice A' n' c', .slice B' 0 d', .slice A5 n5 c5] 29)).heap.size = w5.heap.size + 1 := by simp
                generalize w5.alloc (.cells #[.slice A' n' c', .slice B' 0 d', .slice A5 n5 c5] 29) = w7 at hcells hb7 hs7 ⊢
                have HC := Lib.hid hcells
                have HS := Lib.hid hs7
                clear hcells hs7 hr1' hr2' hr3 hb6 hr1 hr2 hb4 hown hownq hbw hbq
                go_loopw [15] (fun i wr => ThreeRel w7 i wr) (fun i _ => 3 - (intOf i).toNat)
                case atStart => exact ⟨0, by omega, rfl, Below.refl _ _⟩
                case round =>
                  obtain ⟨i, hi, rfl, hbw⟩ := hrel
                  by_cases hlt : i < 3
                  · have hlt7 : w5.heap.size < w7.heap.size := by have := HS.out; omega
                    obtain ⟨A, n, c, ls, hrd, hll, hn, hcell⟩ := (HC.out i hlt).up hbw hlt7
                    have hi6 : (i : Int) < 3 := by omega
                    have HRD := Lib.hid hrd
                    have HLL := Lib.hid hll
                    clear hrd hll
                    go_wp2_with fail
                    refine (check_any A n c ls _ HRD.out (fun l h => by have := HLL.out l h; omega) (by omega)).mono ?_
                    rintro e w8 ⟨k1, E1, hk1, hE1, rfl, rfl⟩
                    go_wp2_with fail
                    refine (refCheck_any A n c ls _ HRD.out (fun l h => by have := HLL.out l h; omega) (by omega)).mono ?_
                    rintro e w9 ⟨k2, E2, hk2, hE2, rfl, rfl⟩
                    obtain rfl : k1 = k2 := hk1.out.trans hk2.out.symm
                    obtain rfl : E1 = E2 := hE1.out.trans hE2.out.symm
                    clear hk1 hk2 hE1 hE2
                    go_wp2
                    go_roundw
                    case rel => exact ⟨i + 1, by omega, by go_num, hbw⟩
                    case measure => simp [intOf]; omega
                  · go_wp2_with fail
                    refine (lives_any _).mono ?_
                    rintro e w8 ⟨rfl, hb8⟩
                    go_wp2
                    go_ret
                    exact ⟨rfl, Up.trans hb7 (Up.trans hbw hb8)⟩
              · go_wp2_with (first
                  | (at_builtin; go_must (refine wpList_appendV strElem rfl (.tmp 56) (.tmp 57) 29 rfl w4.heap.size none 0 0 [] rfl (OwV.nil _ _ _) _ rfl m' (sv qs) HSRC.out (by omega) (by omega) (Nat.le_refl _) ?_); intro A5 n5 c5 l5 w5 hl5 hn5 hown5 hb5 hg5; have z1 : decide (0 < n5) = true := (by have := hn5.out; simp; omega); have z2 : decide ((0 : Int) < n5) = true := (by have := hn5.out; simp; omega)))
                have hn510 : n5 ≤ 10 ∧ 0 < n5 := by have := hn5.out; omega
                refine (around_any at_ n5 _ a0 a1 (by omega) (by omega)).mono ?_
                rintro e w' ⟨p, hp, hpb, rfl, rfl⟩
                go_wp2_with fail
                refine (short_any s 40 _ (by omega) hs).mono ?_
                rintro e w' ⟨y, hy, rfl, rfl⟩
                have hyl : y.length ≤ 64 := by rw [hy.out, List.length_take]; omega
                rw [List.nil_append] at hl5
                obtain rfl := hl5.out
                obtain ⟨g, rfl, hg1, hg2⟩ := hown5.blk hn510.2
                have hcc := hown5.cap
                unfold maxLen at hcc
                obtain ⟨⟨u0, hc⟩, hf, hown6, hgr⟩ := Own.store hown5 p (by omega) (.string (st y))
                have hb6' : Below w4.heap.size w4 (w5.setCell ⟨g, p, none⟩ (.string (st y))) := hb5.setCell hg1 _
                have hr3 : RdV (w5.setCell ⟨g, p, none⟩ (.string (st y))) (w5.setCell ⟨g, p, none⟩ (.string (st y))).heap.size (some ⟨g, 0, none⟩) n5 (sv (qs.set p y)) := by
                  rw [sv_set]; exact Own.reads hown6
                have hpn : (p : Int) < n5 := by omega
                go_wp2
                have hsz6 : (w5.setCell ⟨g, p, none⟩ (.string (st y))).heap.size = w5.heap.size := by simp
                generalize w5.setCell ⟨g, p, none⟩ (.string (st y)) = w6 at hb6' hr3 hsz6 ⊢
                have hrs : ∀ l ∈ qs.set p y, l.length ≤ 64 := by
                  intro l hl
                  rcases List.mem_or_eq_of_mem_set hl with h | h
                  · exact HQS.out l h
                  · subst h; exact hyl
                generalize qs.set p y = rs at hr3 hrs
                have hr1' := hr1.up hb6'
                have hr2' := hr2.up hb6'
                have hb6 : Below w.heap.size w w6 := Up.trans hb4 hb6'
                replace hn510 := hn510.1
                clear hb6' hown6 hown5 hgr hf hc hb5
                obtain ⟨A5, hA5⟩ : ∃ A5, A5 = some (⟨g, 0, none⟩ : Addr) := ⟨_, rfl⟩
                rw [← hA5] at hr3 ⊢
                clear hA5
                have hcells := three w6 29 A' n' c' os B' m' d' qs A5 n5 c5 rs hr1' HOS.out hn10 hr2' HQS.out hm10 hr3 hrs hn510
                rw [hsz6] at hcells
                have hb7 : Below w.heap.size w (w6.alloc (.cells #[.slice A' n' c', .slice B' m' d', .slice A5 n5 c5] 29)) := hb6.alloc hb6.size _
                have hs7 : (w6.alloc (.cells #[.slice A' n' c', .slice B' m' d', .slice A5 n5 c5] 29)).heap.size = w5.heap.size + 1 := by simp [hsz6]
                generalize w6.alloc (.cells #[.slice A' n' c', .slice B' m' d', .slice A5 n5 c5] 29) = w7 at hcells hb7 hs7 ⊢
                have HC := Lib.hid hcells
                have HS := Lib.hid hs7
                clear hsz6 hcells hs7 hr1' hr2' hr3 hb6 hr1 hr2 hb4 hown hownq hbw hbq
                go_loopw [15] (fun i wr => ThreeRel w7 i wr) (fun i _ => 3 - (intOf i).toNat)
                case atStart => exact ⟨0, by omega, rfl, Below.refl _ _⟩
                case round =>
                  obtain ⟨i, hi, rfl, hbw⟩ := hrel
                  by_cases hlt : i < 3
                  · have hlt7 : w5.heap.size < w7.heap.size := by have := HS.out; omega
                    obtain ⟨A, n, c, ls, hrd, hll, hn, hcell⟩ := (HC.out i hlt).up hbw hlt7
                    have hi6 : (i : Int) < 3 := by omega
                    have HRD := Lib.hid hrd
                    have HLL := Lib.hid hll
                    clear hrd hll
                    go_wp2_with fail
                    refine (check_any A n c ls _ HRD.out (fun l h => by have := HLL.out l h; omega) (by omega)).mono ?_
                    rintro e w8 ⟨k1, E1, hk1, hE1, rfl, rfl⟩
                    go_wp2_with fail
                    refine (refCheck_any A n c ls _ HRD.out (fun l h => by have := HLL.out l h; omega) (by omega)).mono ?_
                    rintro e w9 ⟨k2, E2, hk2, hE2, rfl, rfl⟩
                    obtain rfl : k1 = k2 := hk1.out.trans hk2.out.symm
                    obtain rfl : E1 = E2 := hE1.out.trans hE2.out.symm
                    clear hk1 hk2 hE1 hE2
                    go_wp2
                    go_roundw
                    case rel => exact ⟨i + 1, by omega, by go_num, hbw⟩
                    case measure => simp [intOf]; omega
                  · go_wp2_with fail
                    refine (lives_any _).mono ?_
                    rintro e w8 ⟨rfl, hb8⟩
                    go_wp2
                    go_ret
                    exact ⟨rfl, Up.trans hb7 (Up.trans hbw hb8)⟩
end Go.Proofs.Ytipmeclcamllbaa
