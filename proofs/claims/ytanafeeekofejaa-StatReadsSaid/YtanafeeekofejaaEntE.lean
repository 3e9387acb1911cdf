/-
  The two Entries.
-/
import Derived.Test.YtanafeeekofejaaEntD
import Derived.Test.YtanafeeekofejaaLittleU
namespace Go.Proofs.Ytanafeeekofejaa
open Go.RowKit
set_option linter.unusedVariables false
set_option linter.unusedSimpArgs false

theorem num4_lt (l : List UInt8) (e : Int) : num (nxB l e 4) ≤ 4294967295 := by
  have h1 := num_lt (nxB l e 4)
  have h2 := Nat.pow_le_pow_right (show 0 < 256 by omega) (nxB_len l e 4)
  omega
theorem tx_len (l : List UInt8) : (txB l 0).length ≤ 65535 := by
  have h0 := nxB_len (nxL l 0 2) (nxE l 0 2) (num (nxB l 0 2))
  have h1 := num_lt (nxB l 0 2)
  have h2 := Nat.pow_le_pow_right (show 0 < 256 by omega) (nxB_len l 0 2)
  show (nxB _ _ _).length ≤ _
  omega
theorem i64_u32 (v : Nat) (h : v ≤ 4294967295) : IntKind.i64.wrap (v : Int) = v := IntWalk.i64_in _ (by omega)

def lenW : Value → Nat
  | .slice _ n _ => n
  | _ => 0

set_option maxHeartbeats 4000000 in
theorem statEntries_any (A0 : Option Addr) (n0 c0 : Nat) (L : List UInt8) (w : World) (h : RdB w w.heap.size A0 n0 L) (hn : n0 ≤ 1048576) :
    Calls Try.prog 29 #[.slice A0 n0 c0] w (EntsPost2 w (entsAux L.length L [])) := by
  have hL : L.length ≤ 1048576 := by have := h.len; omega
  have H := Lib.hid h
  clear h
  go_enter Try.func29, Try.ntmps29
  go_wp2_with fail
  refine (read_any A0 n0 c0 L _ H.out (by omega)).mono ?_
  rintro e w1 ⟨g, rfl, hg, hR, hb1⟩
  have hlt := hR.lt
  have Hb1 := Lib.hid hb1
  clear hb1
  go_wp2
  go_loopw [4] (fun v wr => EsRel L (g + 1) (fun wr l => Rdr wr g l 0) w v wr) (fun v _ => L.length - lenW v)
  case atStart => exact ⟨L.length, 0, 0, none, L, [], rfl, Nat.le_refl _, Lib.hid rfl, by omega, hR, OwR.nil _ _ _ _, Hb1.out⟩
  case round =>
    obtain ⟨f, n, c, A, l, acc, rfl, hlf, hres, hnl, hRr, hO, hbw⟩ := hrel
    have HRr := Lib.hid hRr
    have HO := Lib.hid hO
    have HB := Lib.hid hbw
    clear hRr hO hbw
    go_wp2_with fail
    refine (rEnd_any g l 0 _ HRr.out).mono ?_
    rintro e wr' ⟨rfl, rfl⟩
    by_cases hl : l = []
    · have hE : endE l 0 = 0 := by unfold endE; rw [hl]; rfl
      rw [hE]
      have hr2 : entsAux L.length L [] = (acc, 0) := by rw [hres.out, hl]; cases f <;> rfl
      have HR2 := Lib.hid hr2
      clear hr2 hE hl
      go_wp2
      go_ret2
      exact ⟨A, n, c, acc, 0, Lib.hid (by rw [HR2.out]), Lib.hid (by rw [HR2.out]), rfl, HO.out.lower (by omega), HB.out⟩
    · have hpos : 0 < l.length := by cases l with | nil => exact absurd rfl hl | cons a t => simp
      have hE : endE l 0 = 2 := by unfold endE; rw [if_pos ⟨rfl, hpos⟩]
      rw [hE]
      obtain ⟨f', rfl⟩ : ∃ f', f = f' + 1 := ⟨f - 1, by omega⟩
      have hr2 : entsAux L.length L [] = if en1E l ≠ 0 then ([], en1E l) else if isName (en1S l) = false then ([], 16) else entsAux f' (en1L l) (acc ++ [(en1S l, en1I l, en1G l)]) := by
        rw [hres.out, entsAux, if_neg hl]
      have HR2 := Lib.hid hr2
      have HL2 := Lib.hid (en1L_lt l)
      have HTX := Lib.hid (tx_len l)
      have hglt := HRr.out.lt
      clear hr2 hE hl hres
      go_wp2_with fail
      refine (rText_any g l 0 _ HRr.out).mono ?_
      rintro e w2 ⟨s, l2, e2, hs, hl2, he2, rfl, hR2, hK2⟩
      have hO2 := HO.out.keeps hK2 (fun k hk h => by have h' : k = g := h; omega)
      have hB2 := HB.out.trans (hK2.is (by omega) (Nat.le_of_lt hglt))
      have HO2 := Lib.hid hO2
      have HB2 := Lib.hid hB2
      have HRa := Lib.hid hR2
      have hglt2 := hR2.lt
      clear hO2 hB2 hR2 hK2
      go_wp2_with fail
      refine (rU32_any g l2 e2 _ HRa.out).mono ?_
      rintro e w3 ⟨vi, l3, e3, hvi, hl3, he3, rfl, hR3, hK3⟩
      have hO3 := HO2.out.keeps hK3 (fun k hk h => by have h' : k = g := h; omega)
      have hB3 := HB2.out.trans (hK3.is (by omega) (Nat.le_of_lt hglt2))
      have hvib : vi ≤ 4294967295 := by rw [hvi.out]; exact num4_lt _ _
      have HO3 := Lib.hid hO3
      have HB3 := Lib.hid hB3
      have HRb := Lib.hid hR3
      have hglt3 := hR3.lt
      clear hO3 hB3 hR3 hK3
      go_wp2_with fail
      refine (rU32_any g l3 e3 _ HRb.out).mono ?_
      rintro e w4 ⟨vg, l4, e4, hvg, hl4, he4, rfl, hR4, hK4⟩
      have hO4 := HO3.out.keeps hK4 (fun k hk h => by have h' : k = g := h; omega)
      have hB4 := HB3.out.trans (hK4.is (by omega) (Nat.le_of_lt hglt3))
      have hvgb : vg ≤ 4294967295 := by rw [hvg.out]; exact num4_lt _ _
      have HO4 := Lib.hid hO4
      have HB4 := Lib.hid hB4
      have HRc := Lib.hid hR4
      have hglt4 := hR4.lt
      have HE4 := Lib.hid (show e4 = en1E l by rw [he4.out, he3.out, hl3.out, he2.out, hl2.out]; rfl)
      have HL4 := Lib.hid (show l4 = en1L l by rw [hl4.out, he3.out, hl3.out, he2.out, hl2.out]; rfl)
      have HI4 := Lib.hid (show vi = en1I l by rw [hvi.out, he2.out, hl2.out]; rfl)
      have HG4 := Lib.hid (show vg = en1G l by rw [hvg.out, he3.out, hl3.out, he2.out, hl2.out]; rfl)
      have HS4 := Lib.hid (show s = en1S l from hs.out)
      have hsl : s.length ≤ 65536 := by have := HTX.out; rw [hs.out]; omega
      clear hO4 hB4 hR4 hK4
      go_wp2_with fail
      refine (rErrno_any g l4 e4 _ HRc.out).mono ?_
      rintro e w5 ⟨rfl, rfl⟩
      by_cases he : e4 = 0
      · obtain rfl := he
        go_wp2_with fail
        refine (name_any s _ hsl).mono ?_
        rintro e w6 ⟨rfl, rfl⟩
        cases hname : isName s with
        | false =>
          have hr3 : entsAux L.length L [] = ([], 16) := by rw [HR2.out, if_neg (by rw [← HE4.out]; simp), ← HS4.out, if_pos hname]
          have HR3 := Lib.hid hr3
          clear hr3 hname
          go_wp2
          go_ret2
          exact ⟨none, 0, 0, [], 16, Lib.hid (by rw [HR3.out]), Lib.hid (by rw [HR3.out]), rfl, OwR.nil _ _ _ _, HB4.out⟩
        | true =>
          have hr3 : entsAux L.length L [] = entsAux f' l4 (acc ++ [(s, vi, vg)]) := by rw [HR2.out, if_neg (by rw [← HE4.out]; simp), ← HS4.out, if_neg (by rw [hname]; simp), ← HL4.out, ← HI4.out, ← HG4.out]
          have HR3 := Lib.hid hr3
          have hlen4 : l4.length + 10 ≤ l.length := by rw [HL4.out]; exact HL2.out HE4.out.symm
          have hwi := i64_u32 vi hvib
          have hwg := i64_u32 vg hvgb
          have Hsrc := Lib.hid (Src.oneR (P := Try.prog) (k := 3) w4 47 53 Try.underlying47 (entC (s, vi, vg)) rfl (entC_one _) #[.string (st s), .int .i64 vi, .int .i64 vg] rfl 53)
          have hsz : g + 1 ≤ (w4.alloc (.cells #[.string (st s), .int .i64 vi, .int .i64 vg] 53)).heap.size := by simp; omega
          clear hr3 hname
          go_wp2_with (at_builtin; go_must (refine wpList_appendR entsElem rfl (.tmp 29) (.tmp 37) 47 rfl (g + 1) A n c (acc.map entC) rfl (HO4.out.alloc _) _ rfl (entC (s, vi, vg)) rfl Hsrc.out (by omega) (by omega) hsz ?_); intro A7 n7 c7 rs7 w7 hrs7 hn7 hown7 hb7 hg7)
          obtain rfl : n7 = n + 1 := hn7.out
          obtain rfl : rs7 = (acc ++ [(s, vi, vg)]).map entC := by rw [hrs7.out]; simp
          have HO7 := Lib.hid hown7
          have HB7 := Lib.hid ((HB4.out.alloc HB4.out.size (.cells #[.string (st s), .int .i64 vi, .int .i64 vg] 53)).trans (hb7.mono (by omega)))
          have HR7 := Lib.hid ((HRc.out.up ((Below.refl _ _).alloc (Nat.le_refl _) (.cells #[.string (st s), .int .i64 vi, .int .i64 vg] 53))).below hb7 (Nat.lt_succ_self _))
          clear hown7 hb7 hg7
          go_wp2
          go_roundw
          case rel => exact ⟨f', n + 1, c7, A7, l4, acc ++ [(s, vi, vg)], rfl, by omega, HR3, by omega, HR7.out, HO7.out, HB7.out⟩
          case measure => simp [lenW]; omega
      · have hr3 : entsAux L.length L [] = ([], e4) := by rw [HR2.out, if_pos (by rw [← HE4.out]; exact he), ← HE4.out]
        have HR3 := Lib.hid hr3
        have hne : (e4 == 0) = false := by simpa using he
        clear hr3
        go_wp2
        go_ret2
        exact ⟨none, 0, 0, [], e4, Lib.hid (by rw [HR3.out]), Lib.hid (by rw [HR3.out]), rfl, OwR.nil _ _ _ _, HB4.out⟩
end Go.Proofs.Ytanafeeekofejaa
