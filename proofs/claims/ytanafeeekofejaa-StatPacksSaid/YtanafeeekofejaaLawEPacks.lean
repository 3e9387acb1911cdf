/-
  Layer 19: the law StatPacks, walked.
-/
import Derived.Test.YtanafeeekofejaaEntG
import Derived.Test.YtanafeeekofejaaLawB
namespace Go.Proofs.Ytanafeeekofejaa
open Go.RowKit
set_option linter.unusedVariables false
set_option linter.unusedSimpArgs false

theorem cell2P (w : World) (a b : Int) (t : TypeId) (P : Int → Prop) (ha : P a) (hb : P b) :
    ∀ j, j < 2 → ∃ o, P o ∧ (w.alloc (.cells #[.int .i64 a, .int .i64 b] t)).cell? ⟨w.heap.size, j, none⟩ = some (.int .i64 o) := by
  intro j hj
  have h : (w.alloc (.cells #[.int .i64 a, .int .i64 b] t)).heap[w.heap.size]? = some (.cells #[.int .i64 a, .int .i64 b] t) := heap_alloc_new w _
  simp only [World.cell?, h]
  match j, hj with
  | 0, _ => exact ⟨a, ha, rfl⟩
  | 1, _ => exact ⟨b, hb, rfl⟩

set_option maxRecDepth 100000 in
set_option maxHeartbeats 4000000 in
theorem statPacks_walk (A0 : Option Addr) (n0 c0 : Nat) (rs : List EntI) (room : Int) (w : World) (h : RdR w w.heap.size 3 A0 n0 (rs.map eiC)) (hok : ∀ r ∈ rs, EiOk r) (h0 : -9223372036854775808 ≤ room) (h1 : room ≤ 9223372036854775807) :
    Calls Try.prog 7 #[.slice A0 n0 c0, .int .i64 room] w fun e w' => e = .returned (.bool true) ∧ Below w.heap.size w w' := by
  have H := Lib.hid h
  have HOK := Lib.hid hok
  clear h hok
  go_enter Try.func7, Try.ntmps7
  go_wp2_with fail
  refine (entries_any A0 n0 c0 rs _ H.out HOK.out).mono ?_
  rintro e w1 ⟨A, n, c, es, hes, rfl, hO, hb1⟩
  have HES := Lib.hid (show ∀ e ∈ es, EntOk e by
    intro e he
    rw [hes.out] at he
    obtain ⟨x, _, rfl⟩ := List.mem_map.1 he
    exact entP_ok x)
  have hn8 : n ≤ 8 := by
    have h2 := hO.len
    rw [List.length_map, hes.out, List.length_map, List.length_take] at h2
    omega
  have hcap := hO.cap
  have HO := Lib.hid hO
  have HB1 := Lib.hid hb1
  clear hO hb1 hes
  go_wp2_with fail
  refine (around_any room 201 _ h0 h1 (by omega) (by omega)).mono ?_
  rintro e w2 ⟨k, hk, hkm, rfl, rfl⟩
  have hc := cell2P w1 room k 3 (fun o => -9223372036854775808 ≤ o ∧ o ≤ 9223372036854775807) ⟨h0, h1⟩ (by omega)
  have hb0 : Below w1.heap.size w1 (w1.alloc (.cells #[.int .i64 room, .int .i64 k] 3)) := (Below.refl _ _).alloc (Nat.le_refl _) _
  obtain ⟨g, hg⟩ : ∃ g, g = w1.heap.size := ⟨_, rfl⟩
  obtain ⟨W, hW⟩ : ∃ W, W = w1.alloc (.cells #[.int .i64 room, .int .i64 k] 3) := ⟨_, rfl⟩
  rw [← hW, ← hg] at hc
  rw [← hW] at hb0
  have hgW : g < W.heap.size := by rw [hW, hg]; simp
  have hOW := HO.out.up hb0
  have HBW := Lib.hid (Up.trans HB1.out hb0)
  have HC := Lib.hid hc
  have HOW := Lib.hid hOW
  have HG := Lib.hid hg
  have hWW := HBW.out.size
  clear hc hb0 hOW hg
  go_wp2
  rw [← hW, ← HG.out]
  clear hW
  go_loopw [7] (fun i wr => RoundRel 2 W i wr) (fun i _ => 2 - (intOf i).toNat)
  case atStart => exact ⟨0, by omega, rfl, Below.refl _ _⟩
  case round =>
    obtain ⟨j, hj, rfl, hbw⟩ := hrel
    have Hbw := Lib.hid hbw
    clear hbw
    by_cases hlt : j < 2
    · obtain ⟨o, ⟨ho0, ho1⟩, hcell⟩ := HC.out j hlt
      have kcr : wr.cell? ⟨g, j, none⟩ = some (.int .i64 o) := cell_later Hbw.out hcell
      have hj0 : (0 : Int) ≤ j := by omega
      have hj4 : (j : Int) < 2 := by omega
      have hOr := HOW.out.up Hbw.out
      have hrd := hOr.rd
      obtain ⟨kk, hkk, hk2, hroom, hlen42, hents⟩ := pack_ents o es HES.out
      obtain ⟨r, hr⟩ : ∃ r, r = packAux o es [] 0 := ⟨_, rfl⟩
      rw [← hr] at hk2 hroom hlen42 hents
      obtain ⟨rl, rk⟩ := r
      obtain rfl : rk = kk := hk2
      have hroom' : (rl.length : Int) ≤ max o 0 := hroom
      have hents' : entsAux rl.length rl [] = (es.take rk, 0) := hents
      have hl42 : rl.length ≤ 42 * es.length := hlen42
      have hesn : es.length = n := by have := hOr.len; simpa using this
      have hkn : rk ≤ n := by omega
      have hl336 : rl.length ≤ 336 := by omega
      have HENTS := Lib.hid hents'
      have HR := Lib.hid hr
      have HRD := Lib.hid hrd
      clear hcell hr hents hents' hroom hrd hOr hkk
      go_wp2_with fail
      refine (pack19_any A n c es o _ HRD.out HES.out (by omega) ho0 ho1).mono ?_
      rintro e w3 ⟨A3, n3, c3, l3, k3, hl3, hk3, rfl, hown3, hb3⟩
      obtain rfl : l3 = rl := by rw [hl3.out, ← HR.out]
      obtain rfl : k3 = rk := by rw [hk3.out, ← HR.out]
      have kc3 := cell_later hb3 kcr
      have hrd3 := HRD.out.up hb3
      have HRD3 := Lib.hid hrd3
      have HOW3 := Lib.hid hown3
      have Hb3 := Lib.hid (Up.trans Hbw.out hb3)
      clear kcr hrd3 hown3 hb3 hl3 hk3
      go_wp2_with fail
      refine (refPack19_any A n c es o _ HRD3.out HES.out (by omega) ho0 ho1).mono ?_
      rintro e w4 ⟨A4, n4, c4, l4, k4, hl4, hk4, rfl, hown4, hb4⟩
      obtain rfl : l4 = l3 := by rw [hl4.out, ← HR.out]
      obtain rfl : k4 = k3 := by rw [hk4.out, ← HR.out]
      have kc4 := cell_later hb4 kc3
      have hown3' := HOW3.out.up hb4
      have hcv3 := str_of (c := c3) hown3'.rd (Below.refl _ _)
      have hcv4 := str_of (c := c4) hown4.rd (Below.refl _ _)
      have hrd4 := HRD3.out.up hb4
      have HRD4 := Lib.hid hrd4
      have HOW4 := Lib.hid hown3'
      have hn3 : l4.length = n3 := hown3'.len
      have hn4 : l4.length = n4 := hown4.len
      have Hb4 := Lib.hid (Up.trans Hb3.out hb4)
      have hn3b : n3 ≤ 336 := by omega
      have hmx : (o < 0 ∧ n3 = 0) ∨ (0 ≤ o ∧ (n3 : Int) ≤ o) := by
        rw [hn3] at hroom'
        omega
      have HMX := Lib.hid hmx
      have kc5 : wr = wr := rfl
      have hkk4 : (k4 : Int) ≤ n := by omega
      have hkn' : ¬ n < k4 := by omega
      have hkn2 : ¬ (n : Int) < k4 := by omega
      clear hrd4 hown3' hown4 hb4 hl4 hk4 kc3 hn3 hn4 hmx hroom' hl42 hlen42 hl336 hesn
      have HT := Lib.hid (show (es.map entC).take k4 = (es.take k4).map entC from List.map_take.symm)
      rcases HMX.out with ⟨m1, m2⟩ | ⟨m1, m2⟩
      · subst m2
        go_wp2_with fail
        refine (statEntries_any A3 _ c3 l4 _ HOW4.out.rd (by omega)).mono ?_
        rintro e w5 ⟨A5, n5, c5, es5, E5, hes5, hE5, rfl, hown5, hb5⟩
        obtain rfl : E5 = 0 := by rw [hE5.out, HENTS.out]
        obtain rfl : es5 = es.take k4 := by rw [hes5.out, HENTS.out]
        obtain rfl : n5 = k4 := by
          have h1 := hown5.len
          have h2 := HRD4.out.len
          rw [List.length_map] at h1 h2
          rw [List.length_take] at h1
          omega
        have h2 := (HRD4.out.up hb5).first (m := n5) (by omega)
        rw [HT.out] at h2
        have HR5 := Lib.hid h2
        have HO5 := Lib.hid hown5
        have Hb5 := Lib.hid (Up.trans Hb4.out hb5)
        clear h2 hown5 hb5 hes5 hE5
        go_wp2_with fail
        refine (same11_eq A5 A n5 c5 c (es.take n5) _ HO5.out.rd HR5.out (by omega)).mono ?_
        rintro e w6 ⟨rfl, hb6⟩
        have Hb6 := Lib.hid (Up.trans Hb5.out hb6)
        clear hb6
        go_wp2
        go_roundw
        case rel => exact ⟨j + 1, by omega, by go_num, Hb6.out⟩
        case measure => simp [intOf]; omega
      · have m3 : ¬ o < 0 := by omega
        have m4 : ¬ o < (n3 : Int) := by omega
        go_wp2_with fail
        refine (statEntries_any A3 _ c3 l4 _ HOW4.out.rd (by omega)).mono ?_
        rintro e w5 ⟨A5, n5, c5, es5, E5, hes5, hE5, rfl, hown5, hb5⟩
        obtain rfl : E5 = 0 := by rw [hE5.out, HENTS.out]
        obtain rfl : es5 = es.take k4 := by rw [hes5.out, HENTS.out]
        obtain rfl : n5 = k4 := by
          have h1 := hown5.len
          have h2 := HRD4.out.len
          rw [List.length_map] at h1 h2
          rw [List.length_take] at h1
          omega
        have h2 := (HRD4.out.up hb5).first (m := n5) (by omega)
        rw [HT.out] at h2
        have HR5 := Lib.hid h2
        have HO5 := Lib.hid hown5
        have Hb5 := Lib.hid (Up.trans Hb4.out hb5)
        clear h2 hown5 hb5 hes5 hE5
        go_wp2_with fail
        refine (same11_eq A5 A n5 c5 c (es.take n5) _ HO5.out.rd HR5.out (by omega)).mono ?_
        rintro e w6 ⟨rfl, hb6⟩
        have Hb6 := Lib.hid (Up.trans Hb5.out hb6)
        clear hb6
        go_wp2
        go_roundw
        case rel => exact ⟨j + 1, by omega, by go_num, Hb6.out⟩
        case measure => simp [intOf]; omega
    · have hj4 : ¬ (j : Int) < 2 := by omega
      go_wp2_with fail
      refine (lives_any _).mono ?_
      rintro e w9 ⟨rfl, hb9⟩
      go_wp2
      go_ret
      exact ⟨rfl, Up.trans HBW.out (Up.trans Hbw.out hb9)⟩
end Go.Proofs.Ytanafeeekofejaa
