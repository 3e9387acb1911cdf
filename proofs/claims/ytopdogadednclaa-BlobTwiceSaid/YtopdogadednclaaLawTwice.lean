/-
  Layer 12: the law BlobTwice, walked.
-/
import Derived.Test.YtopdogadednclaaBlobF
import Derived.Test.YtopdogadednclaaBlobQ
namespace Go.Proofs.Ytopdogadednclaa
open Go.RowKit
set_option linter.unusedVariables false

theorem wrE_small (off : Nat) (d : List UInt8) (h : off + d.length ≤ 2048) : wrE off d = 0 := by unfold wrE big; rw [if_neg (by simp; omega)]
theorem wrB_small (l : List UInt8) (off : Nat) (d : List UInt8) (h : off + d.length ≤ 2048) : wrB l off d = wrl l off d := by unfold wrB big; rw [if_neg (by simp; omega)]

set_option maxHeartbeats 1000000 in
theorem blobTwice_walk (A0 : Option Addr) (n0 c0 : Nat) (l0 : List UInt8) (off : Int) (A2 : Option Addr) (n2 c2 : Nat) (l2 : List UInt8) (cut : Int) (w : World)
    (h0 : RdB w w.heap.size A0 n0 l0) (hc0 : n0 ≤ c0) (hm0 : c0 ≤ maxLen) (o0 : -9223372036854775808 ≤ off) (o1 : off ≤ 9223372036854775807) (h2 : RdB w w.heap.size A2 n2 l2) (hc2 : n2 ≤ c2) (hm2 : c2 ≤ maxLen)
    (u0 : -9223372036854775808 ≤ cut) (u1 : cut ≤ 9223372036854775807) :
    Calls Try.prog 4 #[.slice A0 n0 c0, .int .i64 off, .slice A2 n2 c2, .int .i64 cut] w fun e w' => e = .returned (.bool true) ∧ Below w.heap.size w w' := by
  have H0 := Lib.hid h0
  have H2 := Lib.hid h2
  clear h0 h2
  go_enter Try.func4, Try.ntmps4
  go_wp2_with fail
  refine (few_any A0 n0 c0 l0 40 _ H0.out hc0 hm0 (by omega)).mono ?_
  rintro e w1 ⟨A, n, c, l, hl, rfl, hown, hb1⟩
  go_wp2_with fail
  refine (few_any A2 n2 c2 l2 30 _ (H2.out.up hb1) hc2 hm2 (by omega)).mono ?_
  rintro e w2 ⟨A', n', c', d, hd, rfl, hown', hb2⟩
  have hn40 : n ≤ 40 := by rw [← hown.len, hl.out, List.length_take]; omega
  have hn30 : n' ≤ 30 := by rw [← hown'.len, hd.out, List.length_take]; omega
  have hcc := hown'.cap
  unfold maxLen at hcc
  go_wp2_with fail
  refine (around_any off 51 _ o0 o1 (by omega) (by omega)).mono ?_
  rintro e w' ⟨o, ho, hob, rfl, rfl⟩
  go_wp2_with fail
  rw [show ((n' : Int) + 1) = ((n' + 1 : Nat) : Int) from by omega]
  refine (around_any cut (n' + 1) _ u0 u1 (by omega) (by omega)).mono ?_
  rintro e w' ⟨k, hk, hkb, rfl, rfl⟩
  have hln := hown.len
  have hln' := hown'.len
  have HN := Lib.hid hln
  have HN' := Lib.hid hln'
  clear hln hln'
  have hrd := hown.rd.up hb2
  have hrd' := hown'.rd
  go_wp2_with fail
  refine (write_any A n c l o A' n' c' d _ hrd (by omega) hrd' (by omega) (by omega)).mono ?_
  rintro e w3 ⟨Ax, nx, cx, lx, Ex, hlx, hEx, rfl, hownx, hb3⟩
  rw [wrE_small _ _ (by rw [HN'.out]; omega)] at hEx
  rw [wrB_small _ _ _ (by rw [HN'.out]; omega)] at hlx
  obtain rfl := hEx.out
  have hnx : nx ≤ 4096 := by rw [← hownx.len, hlx.out, wrl_length, HN.out, HN'.out]; split <;> omega
  go_wp2_with fail
  refine (write_any Ax nx cx lx o A' n' c' d _ hownx.rd hnx (hrd'.up hb3) (by omega) (by omega)).mono ?_
  rintro e w4 ⟨Ay, ny, cy, ly, Ey, hly, hEy, rfl, howny, hb4⟩
  rw [wrE_small _ _ (by rw [HN'.out]; omega)] at hEy
  rw [wrB_small _ _ _ (by rw [HN'.out]; omega)] at hly
  obtain rfl := hEy.out
  obtain rfl : lx = ly := by rw [hly.out, hlx.out, wrl_twice]
  have hrd4 := (hrd.up hb3).up hb4
  have hrd4' := (hrd'.up hb3).up hb4
  have hkn : (k : Int) ≤ c' := by omega
  go_wp2_with fail
  refine (write_any A n c l o A' k c' (d.take k) _ hrd4 (by omega) (hrd4'.first (by omega)) (by omega) (by omega)).mono ?_
  rintro e w5 ⟨Az, nz, cz, lz, Ez, hlz, hEz, rfl, hownz, hb5⟩
  rw [wrE_small _ _ (by rw [List.length_take, HN'.out]; omega)] at hEz
  rw [wrB_small _ _ _ (by rw [List.length_take, HN'.out]; omega)] at hlz
  obtain rfl := hEz.out
  have hnz : nz ≤ 4096 := by rw [← hownz.len, hlz.out, wrl_length, HN.out, List.length_take, HN'.out]; split <;> omega
  have hcut := (hrd4'.up hb5).cut (k := k) (c := c') (by omega) (by omega)
  have hkn2 : (k : Int) ≤ n' := by omega
  obtain ⟨Ak, hAk⟩ : ∃ Ak, (if c' = k then A' else A'.map (fun x => x.add k)) = Ak := ⟨_, rfl⟩
  rw [hAk] at hcut
  have HC := Lib.hid hcut
  clear hcut
  go_wp2_with fail
  rw [show ((o : Int) + (k : Int)) = ((o + k : Nat) : Int) from by omega]
  refine (write_any Az nz cz lz (o + k) Ak (n' - k) (c' - k) (d.drop k) _ hownz.rd hnz HC.out (by omega) (by omega)).mono ?_
  rintro e w6 ⟨Av, nv, cv, lv, Ev, hlv, hEv, rfl, hownv, hb6⟩
  rw [wrE_small _ _ (by rw [List.length_drop, HN'.out]; omega)] at hEv
  rw [wrB_small _ _ _ (by rw [List.length_drop, HN'.out]; omega)] at hlv
  obtain rfl := hEv.out
  obtain rfl : lx = lv := by rw [hlv.out, hlz.out, hlx.out, wrl_pieces _ _ _ _ (by rw [HN'.out]; omega)]
  have hb46 : Below w4.heap.size w4 w6 := hb5.trans (hb6.mono hb5.size)
  have hb36 : Below w3.heap.size w3 w6 := hb4.trans (hb46.mono hb4.size)
  have hcx := run_bytes_string (P := Try.prog) (c := cx) _ _ _ Try.underlying22 Try.underlying5 Try.underlying9 (hownx.rd.below hb36)
  have hcy := run_bytes_string (P := Try.prog) (c := cy) _ _ _ Try.underlying22 Try.underlying5 Try.underlying9 (howny.rd.below hb46)
  have hcv := run_bytes_string (P := Try.prog) (c := cv) _ _ _ Try.underlying22 Try.underlying5 Try.underlying9 hownv.rd
  clear hlx hly hlz hlv hAk
  go_wp2_with fail
  refine (lives_any _).mono ?_
  rintro e w7 ⟨rfl, hb7⟩
  go_wp2
  go_ret
  have hb03 := hb1.trans ((hb2.trans (hb3.mono hb2.size)).mono hb1.size)
  have s03 := hb03.size
  exact ⟨rfl, hb03.trans ((hb36.trans (hb7.mono hb36.size)).mono s03)⟩
end Go.Proofs.Ytopdogadednclaa
