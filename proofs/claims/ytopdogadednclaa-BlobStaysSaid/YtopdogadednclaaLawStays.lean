/-
  Layer 12: the law BlobStays, walked.
-/
import Derived.Test.YtopdogadednclaaBlobF
import Derived.Test.YtopdogadednclaaBlobQ
import Derived.Test.YtopdogadednclaaLawTwice
namespace Go.Proofs.Ytopdogadednclaa
open Go.RowKit
set_option linter.unusedVariables false

/-- One element's cut, as the walk writes it. -/
theorem one_cut {w : World} {B g n c k : Nat} {l : List UInt8} (h : RdB w B (some ⟨g, 0, none⟩) n l) (hk : k < n) (hc : n ≤ c) : RdB w B (some ⟨g, k, none⟩) 1 ((l.drop k).take 1) := by
  have := (h.cut (k := k) (c := c) (by omega) hc)
  rw [if_neg (by omega)] at this
  simp only [Option.map_some, add_plain, Nat.zero_add] at this
  exact this.first (by omega)

set_option maxHeartbeats 1000000 in
theorem blobStays_walk (A0 : Option Addr) (n0 c0 : Nat) (l0 : List UInt8) (off : Int) (A2 : Option Addr) (n2 c2 : Nat) (l2 : List UInt8) (at_ : Int) (w : World)
    (h0 : RdB w w.heap.size A0 n0 l0) (hc0 : n0 ≤ c0) (hm0 : c0 ≤ maxLen) (o0 : -9223372036854775808 ≤ off) (o1 : off ≤ 9223372036854775807) (h2 : RdB w w.heap.size A2 n2 l2) (hc2 : n2 ≤ c2) (hm2 : c2 ≤ maxLen)
    (u0 : -9223372036854775808 ≤ at_) (u1 : at_ ≤ 9223372036854775807) :
    Calls Try.prog 7 #[.slice A0 n0 c0, .int .i64 off, .slice A2 n2 c2, .int .i64 at_] w fun e w' => e = .returned (.bool true) ∧ Below w.heap.size w w' := by
  have H0 := Lib.hid h0
  have H2 := Lib.hid h2
  clear h0 h2
  go_enter Try.func7, Try.ntmps7
  go_wp2_with fail
  refine (few_any A0 n0 c0 l0 40 _ H0.out hc0 hm0 (by omega)).mono ?_
  rintro e w1 ⟨A, n, c, l, hl, rfl, hown, hb1⟩
  go_wp2_with fail
  refine (few_any A2 n2 c2 l2 20 _ (H2.out.up hb1) hc2 hm2 (by omega)).mono ?_
  rintro e w2 ⟨A', n', c', d, hd, rfl, hown', hb2⟩
  have hn40 : n ≤ 40 := by rw [← hown.len, hl.out, List.length_take]; omega
  have hn30 : n' ≤ 20 := by rw [← hown'.len, hd.out, List.length_take]; omega
  have hcc := hown.cap
  have hcc' := hown'.cap
  unfold maxLen at hcc hcc'
  go_wp2_with fail
  refine (around_any off 51 _ o0 o1 (by omega) (by omega)).mono ?_
  rintro e w' ⟨o, ho, hob, rfl, rfl⟩
  have HN := Lib.hid hown.len
  have HN' := Lib.hid hown'.len
  have hrd := hown.rd.up hb2
  have hrd' := hown'.rd
  go_wp2_with fail
  refine (write_any A n c l o A' n' c' d _ hrd (by omega) hrd' (by omega) (by omega)).mono ?_
  rintro e w3 ⟨Ax, nx, cx, lx, Ex, hlx, hEx, rfl, hownx, hb3⟩
  rw [wrE_small _ _ (by rw [HN'.out]; omega)] at hEx
  rw [wrB_small _ _ _ (by rw [HN'.out]; omega)] at hlx
  obtain rfl := hEx.out
  have hnx : nx ≤ 4096 := by rw [← hownx.len, hlx.out, wrl_length, HN.out, HN'.out]; split <;> omega
  go_wp2_with fail
  refine (around_any at_ 71 _ u0 u1 (by omega) (by omega)).mono ?_
  rintro e w' ⟨k, hk, hkb, rfl, rfl⟩
  go_wp2_with fail
  refine (read_any Ax nx cx lx k 1 _ hownx.rd hnx hownx.cap.1 hownx.cap.2 (by omega) (by omega)).mono ?_
  rintro e w4 ⟨Ay, ny, cy, ly, Ey, hly, hEy, rfl, howny, hb4⟩
  have hone : ly = if o ≤ k ∧ k < o + d.length then (d.drop (k - o)).take 1 else if k < l.length then (l.drop k).take 1 else if d ≠ [] ∧ k < o + d.length then [0] else [] := by
    rw [hly.out, hlx.out]; exact wrl_one l d o k
  rw [HN'.out, HN.out] at hone
  have hcy := run_bytes_string (P := Try.prog) (c := cy) _ _ _ Try.underlying22 Try.underlying5 Try.underlying9 howny.rd
  have hrd4 := (hrd.up hb3).up hb4
  have hrd4' := (hrd'.up hb3).up hb4
  have hb02 := hb1.trans (hb2.mono hb1.size)
  have hb24 := hb3.trans (hb4.mono hb3.size)
  have hb04 := hb02.trans (hb24.mono hb02.size)
  clear hlx hly hEx hl hd
  have cvt : ∀ (g m cc kk : Nat) (q : List UInt8), RdB w4 w4.heap.size (some ⟨g, kk, none⟩) 1 q → (convert 22 9 (.slice (some ⟨g, kk, none⟩) 1 cc)).run Try.prog w4 = .ok (.string (st q)) w4 := fun g m cc kk q h =>
    run_bytes_string _ _ _ Try.underlying22 Try.underlying5 Try.underlying9 h
  have CVT := Lib.hid cvt
  have HB := Lib.hid hb04
  clear cvt hb04 hb02 hb24 hb1 hb2 hb3 hb4
  by_cases ha : o ≤ k ∧ k < o + n'
  · rw [if_pos ha] at hone
    obtain ⟨g', rfl, _, _⟩ := hown'.blk (by omega)
    have hq := CVT.out g' 0 (c' - (k - o)) (k - o) _ (one_cut hrd4' (k := k - o) (c := c') (by omega) (by omega))
    rw [← hone] at hq
    have hne : ¬ c' = k - o := by omega
    have d1 : decide ((o : Int) ≤ k) = true := by simp; omega
    have d2 : decide ((k : Int) < (o : Int) + n') = true := by simp; omega
    have d3 : decide (o ≤ k) = true := by simp; omega
    have d4 : decide (k < o) = false := by simp; omega
    have t1 : ((k : Int) - (o : Int)) = ((k - o : Nat) : Int) := by omega
    have t2 : (0 : Int) ≤ (k : Int) - (o : Int) := by omega
    have HO := Lib.hid hone
    clear hone
    by_cases hkn : k < n
    · obtain ⟨g, rfl, _, _⟩ := hown.blk (by omega)
      have hq1 := CVT.out g 0 (c - k) k _ (one_cut hrd4 (k := k) (c := c) (by omega) (by omega))
      have hne1 : ¬ c = k := by omega
      generalize (l.drop k).take 1 = q1 at hq1
      have d5 : decide (n ≤ k) = false := by simp; omega
      go_wp2_with fail
      refine (lives_any _).mono ?_
      rintro e w7 ⟨rfl, hb7⟩
      go_wp2
      go_ret
      exact ⟨rfl, HB.out.trans (hb7.mono HB.out.size)⟩
    · have d5 : decide (n ≤ k) = true := by simp; omega
      go_wp2_with fail
      refine (lives_any _).mono ?_
      rintro e w7 ⟨rfl, hb7⟩
      go_wp2
      go_ret
      exact ⟨rfl, HB.out.trans (hb7.mono HB.out.size)⟩
  · rw [if_neg ha] at hone
    have d12 : (decide (o ≤ k) = false ∧ decide ((o : Int) ≤ k) = false) ∨ (decide (o ≤ k) = true ∧ decide ((o : Int) ≤ k) = true ∧ decide ((k : Int) < (o : Int) + n') = false) := by
      simp; omega
    by_cases hkn : k < n
    · rw [if_pos hkn] at hone
      obtain ⟨g, rfl, _, _⟩ := hown.blk (by omega)
      have hq1 := CVT.out g 0 (c - k) k _ (one_cut hrd4 (k := k) (c := c) (by omega) (by omega))
      rw [← hone] at hq1
      have hne1 : ¬ c = k := by omega
      have d5 : decide (n ≤ k) = false := by simp; omega
      have HO := Lib.hid hone
      clear hone
      rcases d12 with ⟨d1, d2⟩ | ⟨d1, d2, d3⟩
      · go_wp2_with fail
        refine (lives_any _).mono ?_
        rintro e w7 ⟨rfl, hb7⟩
        go_wp2
        go_ret
        exact ⟨rfl, HB.out.trans (hb7.mono HB.out.size)⟩
      · go_wp2_with fail
        refine (lives_any _).mono ?_
        rintro e w7 ⟨rfl, hb7⟩
        go_wp2
        go_ret
        exact ⟨rfl, HB.out.trans (hb7.mono HB.out.size)⟩
    · rw [if_neg hkn] at hone
      have d5 : decide (n ≤ k) = true := by simp; omega
      by_cases hko : k < o
      · have d6 : decide (k < o) = true := by simp; omega
        have d7 : decide (o ≤ k) = false := by simp; omega
        have d8 : decide ((o : Int) ≤ k) = false := by simp; omega
        by_cases hn0 : 0 < n'
        · have hdne : d ≠ [] := by intro e; have := HN'.out; rw [e] at this; simp at this; omega
          rw [if_pos ⟨hdne, by omega⟩] at hone
          subst hone
          have d9 : decide (0 < n') = true := by simp; omega
          have d10 : decide ((0 : Int) < n') = true := by simp; omega
          go_wp2_with fail
          refine (lives_any _).mono ?_
          rintro e w7 ⟨rfl, hb7⟩
          go_wp2
          go_ret
          exact ⟨rfl, HB.out.trans (hb7.mono HB.out.size)⟩
        · have hde : d = [] := List.eq_nil_of_length_eq_zero (by rw [HN'.out]; omega)
          rw [if_neg (by rintro ⟨h, _⟩; exact h hde)] at hone
          subst hone
          have d9 : decide (0 < n') = false := by simp; omega
          have d10 : decide ((0 : Int) < n') = false := by simp; omega
          go_wp2_with fail
          refine (lives_any _).mono ?_
          rintro e w7 ⟨rfl, hb7⟩
          go_wp2
          go_ret
          exact ⟨rfl, HB.out.trans (hb7.mono HB.out.size)⟩
      · rw [if_neg (by rintro ⟨h, h2⟩; exact ha ⟨by omega, h2⟩)] at hone
        subst hone
        have d6 : decide (k < o) = false := by simp; omega
        have d7 : decide (o ≤ k) = true := by simp; omega
        have d8 : decide ((o : Int) ≤ k) = true := by simp; omega
        have d9 : decide ((k : Int) < (o : Int) + n') = false := by simp; omega
        go_wp2_with fail
        refine (lives_any _).mono ?_
        rintro e w7 ⟨rfl, hb7⟩
        go_wp2
        go_ret
        exact ⟨rfl, HB.out.trans (hb7.mono HB.out.size)⟩
end Go.Proofs.Ytopdogadednclaa
