/-
  The two Packs.
-/
import Derived.Test.YtanafeeekofejaaEntB
namespace Go.Proofs.Ytanafeeekofejaa
open Go.RowKit
set_option linter.unusedVariables false
set_option linter.unusedSimpArgs false

def PkRel (es : List Ent) (room : Int) (n : Nat) (w : World) (v i : Value) (wr : World) : Prop :=
  ∃ (j m c : Nat) (A : Option Addr) (acc : List UInt8), j ≤ n ∧ i = .int .i64 j ∧ v = .slice A m c ∧ Hid (packAux room es [] 0 = packAux room (es.drop j) acc j) ∧ m ≤ 42 * j ∧ OwB wr w.heap.size A m c acc ∧ Below w.heap.size w wr
def PackPost (w : World) (r : List UInt8 × Nat) (e : Ending) (w' : World) : Prop :=
  ∃ A n c l k, Hid (l = r.1) ∧ Hid (k = r.2) ∧ e = .returned (.tuple #[.slice A n c, .int .i64 (k : Nat)]) ∧ OwB w' w.heap.size A n c l ∧ Below w.heap.size w w'

theorem hO2len {w : World} {base n c : Nat} {A : Option Addr} {l : List UInt8} (h : OwB w base A n c l) : l.length = n := h.len
set_option maxHeartbeats 4000000 in
theorem refPack19_any (A0 : Option Addr) (n0 c0 : Nat) (es : List Ent) (room : Int) (w : World) (h : RdR w w.heap.size 3 A0 n0 (es.map entC)) (hok : ∀ e ∈ es, EntOk e) (hn : n0 ≤ 1000) (hr0 : -9223372036854775808 ≤ room) (hr1 : room ≤ 9223372036854775807) :
    Calls Try.prog 25 #[.slice A0 n0 c0, .int .i64 room] w (PackPost w (packAux room es [] 0)) := by
  have hl : es.length = n0 := by have := h.len; simpa using this
  have H := Lib.hid h
  have HL := Lib.hid hl
  have HOK := Lib.hid hok
  clear h hl hok
  go_enter Try.func25, Try.ntmps25
  go_wp2
  go_loopw [6, 7] (fun v i wr => PkRel es room n0 w v i wr) (fun _ i _ => n0 - (intOf i).toNat)
  case atStart => exact ⟨0, 0, 0, none, [], by omega, rfl, rfl, Lib.hid (by rw [List.drop_zero]), by omega, OwB.nil _ _, Below.refl _ _⟩
  case round =>
    obtain ⟨j, m, c, A, acc, hj, rfl, rfl, hacc, hm, hO, hbw⟩ := hrel
    by_cases hlt : j < n0
    · have j0 : (0 : Int) ≤ j := by omega
      have j1 : (j : Int) < n0 := by omega
      obtain ⟨b, off, r, hA, hbl, hr, _, hc⟩ := (H.out.below hbw).at_ hlt
      subst hA
      have hjl : j < es.length := by rw [HL.out]; exact hlt
      obtain ⟨x, hx⟩ : ∃ x, x = es[j] := ⟨_, rfl⟩
      rw [List.getElem?_map, List.getElem?_eq_getElem hjl, ← hx] at hr
      obtain rfl : r = entC x := by simpa using hr.symm
      have hxo : EntOk x := by rw [hx]; exact HOK.out _ (List.getElem_mem hjl)
      have hdr : es.drop j = x :: es.drop (j + 1) := by rw [List.drop_eq_getElem_cons hjl, ← hx]
      rw [hdr] at hacc
      obtain ⟨xs, xi, xg⟩ := x
      obtain ⟨o1, o2, o3, o4⟩ := hxo
      have o2' : xs.length ≤ 32 := o2
      have d0 := hc 0 _ rfl
      have d1 := hc 1 _ rfl
      have d2 := hc 2 _ rfl
      simp only [Nat.add_zero] at d0
      have HO := Lib.hid hO
      have HB := Lib.hid hbw
      clear hr hx hc hO hbw hdr
      go_wp2_with fail
      refine (refEntry_any xs xi xg _ (by omega) o3 o4).mono ?_
      rintro e w2 ⟨A2, n2, c2, l2, hl2, rfl, hown2, hb2⟩
      have hn2 : n2 = 10 + xs.length := by rw [← hown2.len, hl2.out]; exact entB_length (xs, xi, xg)
      have hn2b : n2 ≤ 42 := by omega
      have hbA : Below w.heap.size w w2 := HB.out.trans (hb2.mono HB.out.size)
      have hOA : OwB w2 w.heap.size A m c acc := HO.out.up hb2
      have HO2 := Lib.hid hOA
      have HB2 := Lib.hid hbA
      have HN2 := Lib.hid hn2
      have H2 := Lib.hid (hown2.rd.src (P := Try.prog) (c := c2) 46 5 Try.underlying46)
      have hml : (acc.length : Int) = m := by have := hO2len HO2.out; omega
      have HML := Lib.hid hml
      clear hbA hOA hown2 hb2 d0 d1 d2 hn2 hml
      by_cases hroom : room < (m : Int) + n2
      · have hres : packAux room es [] 0 = (acc, j) := by
          rw [hacc.out, packAux, if_pos (by rw [HML.out, entB_length, ← show n2 = 10 + xs.length from HN2.out]; exact hroom)]
        have HRES := Lib.hid hres
        clear hres
        go_wp2
        go_ret2
        exact ⟨A, m, c, acc, j, Lib.hid (by rw [HRES.out]), Lib.hid (by rw [HRES.out]), rfl, HO2.out, HB2.out⟩
      · have hres : packAux room es [] 0 = packAux room (es.drop (j + 1)) (acc ++ l2) (j + 1) := by
          rw [hacc.out, packAux, if_neg (by rw [HML.out, entB_length, ← show n2 = 10 + xs.length from HN2.out]; exact hroom), hl2.out]; rfl
        have HRES := Lib.hid hres
        have hsz := HB2.out.size
        clear hres
        go_wp2_with (at_builtin; go_must (refine wpList_appendB bytesElem rfl (.tmp 29) (.tmp 30) 46 rfl w.heap.size A m c acc rfl HO2.out _ rfl n2 l2 H2.out (by omega) hsz ?_); intro A3 n3 c3 l3 w3 hl3 hn3 hown3 hb3 hg3)
        obtain rfl : n3 = m + n2 := hn3.out
        have HO3 := Lib.hid hown3
        have HB3 := Lib.hid (HB2.out.trans hb3)
        clear hown3 hb3 hg3
        go_wp2
        go_roundw
        case rel => exact ⟨j + 1, m + n2, c3, A3, l3, by omega, by go_num, rfl, Lib.hid (by rw [HRES.out, hl3.out]), by omega, HO3.out, HB3.out⟩
        case measure => simp [intOf]; omega
    · obtain rfl : j = n0 := by omega
      have j1 : ¬ (j : Int) < j := by omega
      have hres : packAux room es [] 0 = (acc, j) := by
        rw [hacc.out, List.drop_of_length_le (by rw [HL.out]; exact Nat.le_refl _)]; rfl
      have HRES := Lib.hid hres
      clear hres
      go_wp2
      go_ret2
      exact ⟨A, m, c, acc, j, Lib.hid (by rw [HRES.out]), Lib.hid (by rw [HRES.out]), rfl, hO, hbw⟩
set_option maxHeartbeats 4000000 in
theorem pack19_any (A0 : Option Addr) (n0 c0 : Nat) (es : List Ent) (room : Int) (w : World) (h : RdR w w.heap.size 3 A0 n0 (es.map entC)) (hok : ∀ e ∈ es, EntOk e) (hn : n0 ≤ 1000) (hr0 : -9223372036854775808 ≤ room) (hr1 : room ≤ 9223372036854775807) :
    Calls Try.prog 32 #[.slice A0 n0 c0, .int .i64 room] w (PackPost w (packAux room es [] 0)) := by
  have hl : es.length = n0 := by have := h.len; simpa using this
  have H := Lib.hid h
  have HL := Lib.hid hl
  have HOK := Lib.hid hok
  clear h hl hok
  go_enter Try.func32, Try.ntmps32
  go_wp2
  go_loopw [6, 12] (fun v i wr => PkRel es room n0 w v i wr) (fun _ i _ => n0 - (intOf i).toNat)
  case atStart => exact ⟨0, 0, 0, none, [], by omega, rfl, rfl, Lib.hid (by rw [List.drop_zero]), by omega, OwB.nil _ _, Below.refl _ _⟩
  case round =>
    obtain ⟨j, m, c, A, acc, hj, rfl, rfl, hacc, hm, hO, hbw⟩ := hrel
    by_cases hlt : j < n0
    · have j0 : (0 : Int) ≤ j := by omega
      have j1 : (j : Int) < n0 := by omega
      obtain ⟨b, off, r, hA, hbl, hr, _, hc⟩ := (H.out.below hbw).at_ hlt
      subst hA
      have hjl : j < es.length := by rw [HL.out]; exact hlt
      obtain ⟨x, hx⟩ : ∃ x, x = es[j] := ⟨_, rfl⟩
      rw [List.getElem?_map, List.getElem?_eq_getElem hjl, ← hx] at hr
      obtain rfl : r = entC x := by simpa using hr.symm
      have hxo : EntOk x := by rw [hx]; exact HOK.out _ (List.getElem_mem hjl)
      have hdr : es.drop j = x :: es.drop (j + 1) := by rw [List.drop_eq_getElem_cons hjl, ← hx]
      rw [hdr] at hacc
      obtain ⟨xs, xi, xg⟩ := x
      obtain ⟨o1, o2, o3, o4⟩ := hxo
      have o2' : xs.length ≤ 32 := o2
      have d0 := hc 0 _ rfl
      have d1 := hc 1 _ rfl
      have d2 := hc 2 _ rfl
      simp only [Nat.add_zero] at d0
      have HO := Lib.hid hO
      have HB := Lib.hid hbw
      clear hr hx hc hO hbw hdr
      go_wp2_with fail
      refine (entry_any xs xi xg _ (by omega) o3 o4).mono ?_
      rintro e w2 ⟨A2, n2, c2, l2, hl2, rfl, hown2, hb2⟩
      have hn2 : n2 = 10 + xs.length := by rw [← hown2.len, hl2.out]; exact entB_length (xs, xi, xg)
      have hn2b : n2 ≤ 42 := by omega
      have hbA : Below w.heap.size w w2 := (HB.out.alloc HB.out.size (.cells #[.string (st xs), .int .i64 xi, .int .i64 xg] 53)).trans (hb2.mono (by have := HB.out.size; simp; omega))
      have hOA : OwB w2 w.heap.size A m c acc := (HO.out.alloc (.cells #[.string (st xs), .int .i64 xi, .int .i64 xg] 53)).up hb2
      have HO2 := Lib.hid hOA
      have HB2 := Lib.hid hbA
      have HN2 := Lib.hid hn2
      have H2 := Lib.hid (hown2.rd.src (P := Try.prog) (c := c2) 46 5 Try.underlying46)
      have hml : (acc.length : Int) = m := by have := hO2len HO2.out; omega
      have HML := Lib.hid hml
      clear hbA hOA hown2 hb2 d0 d1 d2 hn2 hml
      by_cases hroom : room < (m : Int) + n2
      · have hres : packAux room es [] 0 = (acc, j) := by
          rw [hacc.out, packAux, if_pos (by rw [HML.out, entB_length, ← show n2 = 10 + xs.length from HN2.out]; exact hroom)]
        have HRES := Lib.hid hres
        clear hres
        go_wp2
        go_ret2
        exact ⟨A, m, c, acc, j, Lib.hid (by rw [HRES.out]), Lib.hid (by rw [HRES.out]), rfl, HO2.out, HB2.out⟩
      · have hres : packAux room es [] 0 = packAux room (es.drop (j + 1)) (acc ++ l2) (j + 1) := by
          rw [hacc.out, packAux, if_neg (by rw [HML.out, entB_length, ← show n2 = 10 + xs.length from HN2.out]; exact hroom), hl2.out]; rfl
        have HRES := Lib.hid hres
        have hsz := HB2.out.size
        clear hres
        go_wp2_with (at_builtin; go_must (refine wpList_appendB bytesElem rfl (.tmp 28) (.tmp 29) 46 rfl w.heap.size A m c acc rfl HO2.out _ rfl n2 l2 H2.out (by omega) hsz ?_); intro A3 n3 c3 l3 w3 hl3 hn3 hown3 hb3 hg3)
        obtain rfl : n3 = m + n2 := hn3.out
        have HO3 := Lib.hid hown3
        have HB3 := Lib.hid (HB2.out.trans hb3)
        clear hown3 hb3 hg3
        go_wp2
        go_roundw
        case rel => exact ⟨j + 1, m + n2, c3, A3, l3, by omega, by go_num, rfl, Lib.hid (by rw [HRES.out, hl3.out]), by omega, HO3.out, HB3.out⟩
        case measure => simp [intOf]; omega
    · obtain rfl : j = n0 := by omega
      have j1 : ¬ (j : Int) < j := by omega
      have hres : packAux room es [] 0 = (acc, j) := by
        rw [hacc.out, List.drop_of_length_le (by rw [HL.out]; exact Nat.le_refl _)]; rfl
      have HRES := Lib.hid hres
      clear hres
      go_wp2
      go_ret2
      exact ⟨A, m, c, acc, j, Lib.hid (by rw [HRES.out]), Lib.hid (by rw [HRES.out]), rfl, hO, hbw⟩
end Go.Proofs.Ytanafeeekofejaa
