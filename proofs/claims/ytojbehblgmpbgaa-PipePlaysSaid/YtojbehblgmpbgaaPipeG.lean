/-
  Layer 5: Good; the pieces' lengths.
-/
import Derived.Test.YtojbehblgmpbgaaLawPOwns
namespace Go.Proofs.Ytojbehblgmpbgaa
open Go.RowKit Go.Conc
set_option linter.unusedVariables false
set_option linter.unusedSimpArgs false

/-- A script that Good makes. -/
def GoodS (gs : List Int) : Prop := MayS gs ∧ gs.length ≤ 6 ∧ 1 ≤ gs.length ∧ ∀ z ∈ gs, 0 ≤ z ∧ z ≤ 9
theorem GoodS.sizes {gs : List Int} (h : GoodS gs) : Sizes gs := ⟨by have := h.2.1; omega, fun z hz => by have := h.2.2.2 z hz; omega⟩
theorem GoodS.scr {gs : List Int} (h : GoodS gs) : scr gs = gs := by
  unfold Go.Proofs.Ytojbehblgmpbgaa.scr
  rw [if_neg]
  rintro rfl
  have := h.2.2.1
  simp at this
def GoodPost (w : World) (e : Ending) (w' : World) : Prop := ∃ A n c gs, GoodS gs ∧ e = .returned (.slice A n c) ∧ OwV w' w.heap.size 3 A n c (iv gs) ∧ Below w.heap.size w w'
def GdRel (w : World) (n : Nat) (l s i : Value) (wr : World) : Prop := ∃ (k : Nat) (b : Bool) (A : Option Addr) (m c : Nat) (gs : List Int), k ≤ n ∧ k ≤ 5 ∧ i = .int .i64 k ∧ s = .bool b ∧ l = .slice A m c ∧ OwV wr w.heap.size 3 A m c (iv gs) ∧ gs.length = k ∧ (∀ z ∈ gs, 0 ≤ z ∧ z ≤ 9) ∧ (b = true ↔ ∃ z ∈ gs, 0 < z) ∧ Below w.heap.size w wr

set_option maxHeartbeats 2000000 in
theorem good_any (A : Option Addr) (n c : Nat) (zs : List Int) (w : World) (h : RdV w w.heap.size A n (iv zs)) (hz : ∀ z ∈ zs, -9223372036854775808 ≤ z ∧ z ≤ 9223372036854775807) (hn2 : n ≤ 9223372036854775807) :
    Calls Try.prog 16 #[.slice A n c] w (GoodPost w) := by
  have H := Lib.hid h
  have HZ := Lib.hid hz
  clear h hz
  go_enter Try.func16, Try.ntmps16
  go_wp2
  go_loopw [3, 4, 5] (fun l s i wr => GdRel w n l s i wr) (fun _ _ i _ => 5 - (intOf i).toNat)
  case atStart => exact ⟨0, false, none, 0, 0, [], by omega, by omega, rfl, rfl, rfl, OwV.nil _ _ _, rfl, by simp, by simp, Below.refl _ _⟩
  case round =>
    obtain ⟨k, b, A1, m1, c1, gs, hk, hk5, rfl, rfl, rfl, hown, hlen, hall, hsome, hbw⟩ := hrel
    have hm : m1 = k := by rw [← hown.len, iv_length]; exact hlen
    subst hm
    have HOW := Lib.hid hown
    have HA := Lib.hid hall
    have HS := Lib.hid hsome
    have HL := Lib.hid hlen
    have HBW := Lib.hid hbw
    have hsz := hbw.size
    clear hown hall hsome hlen hbw
    by_cases hlt : m1 < n ∧ m1 < 5
    · obtain ⟨h1, h2⟩ := hlt
      have j0 : (0 : Int) ≤ m1 := by omega
      have j1 : (m1 : Int) < n := by omega
      have j2 : (m1 : Int) < 5 := by omega
      obtain ⟨bb, off, hA, hbl, hcs⟩ := H.out.ints (by omega)
      obtain ⟨z, hzk, kc⟩ := hcs m1 h1
      have hzb := HZ.out z (List.mem_of_getElem? hzk)
      subst hA
      have kr := cell_later HBW.out kc
      clear hcs kc hzk
      go_wp2_with fail
      refine (around_any z 10 _ hzb.1 hzb.2 (by omega) (by omega)).mono ?_
      rintro e w1 ⟨q, _, hq, rfl, rfl⟩
      have Hsrc := Lib.hid (Src.oneV (P := Try.prog) wr 36 3 Try.underlying36 (.int .i64 (q : Int)) rfl 3)
      clear kr
      go_upto_region 8 with (at_builtin; go_must (refine wpList_appendV intsElem rfl (.tmp 22) (.tmp 24) 36 rfl w.heap.size A1 m1 c1 (iv gs) rfl (HOW.out.alloc _) _ rfl 1 [.int .i64 (q : Int)] Hsrc.out (by omega) (by omega) (by simp; omega) ?_); intro A2 n2 c2 l2 w2 hl2 hn2 hown2 hb2 hg2; simp only [Act.put, List.setIfInBounds_toArray, List.set_cons_succ, List.set_cons_zero])
      have hown2' : OwV w2 w.heap.size 3 A2 n2 c2 (iv (gs ++ [(q : Int)])) := by rw [hl2.out] at hown2; rw [iv_append]; exact hown2
      have hbw2 : Below w.heap.size w w2 := HBW.out.trans (((Below.refl _ _).alloc hsz _).trans hb2)
      have HOW2 := Lib.hid hown2'
      have HBW2 := Lib.hid hbw2
      clear hown2 hown2' hb2 hg2 hbw2
      have hall' : ∀ z ∈ gs ++ [(q : Int)], 0 ≤ z ∧ z ≤ 9 := by
        intro z hz
        rcases List.mem_append.1 hz with hz | hz
        · exact HA.out z hz
        · simp at hz; subst hz; omega
      have HA2 := Lib.hid hall'
      clear hall'
      cases b with
      | true =>
        go_wp2
        go_roundw
        case rel =>
          refine ⟨m1 + 1, true, A2, n2, c2, gs ++ [(q : Int)], by omega, by omega, by go_num, rfl, rfl, HOW2.out, by simp [HL.out], HA2.out, ⟨fun _ => ?_, fun _ => rfl⟩, HBW2.out⟩
          obtain ⟨y, hy, hp⟩ := HS.out.1 (by first | rfl | trivial)
          exact ⟨y, List.mem_append.2 (.inl hy), hp⟩
        case measure => simp [intOf]; omega
      | false =>
        go_wp2
        go_roundw
        case rel =>
          refine ⟨m1 + 1, decide (0 < (q : Int)), A2, n2, c2, gs ++ [(q : Int)], by omega, by omega, by go_num, ?_, rfl, HOW2.out, by simp [HL.out], HA2.out, ?_, HBW2.out⟩
          · first | rfl | simp
          · rw [decide_eq_true_iff]
            refine ⟨fun hp => ⟨q, by simp, hp⟩, fun ⟨y, hy, hp⟩ => ?_⟩
            rcases List.mem_append.1 hy with hy | hy
            · exact absurd (HS.out.2 ⟨y, hy, hp⟩) (by simp)
            · simp at hy; subst hy; exact hp
        case measure => simp [intOf]; omega
    · have hend : ¬ ((m1 : Int) < n ∧ (m1 : Int) < 5) := by omega
      cases b with
      | true =>
        by_cases h1 : m1 < n
        · have j1 : (m1 : Int) < n := by omega
          have j2 : ¬ (m1 : Int) < 5 := by omega
          have j3 : decide ((m1 : Int) < 5) = false := by simpa using j2
          clear hend
          go_wp2
          go_ret
          obtain ⟨y, hy, hp⟩ := HS.out.1 (by first | rfl | trivial)
          exact ⟨A1, m1, c1, gs, ⟨⟨fun z hz => (HA.out z hz).1, y, hy, hp⟩, by rw [HL.out]; omega, List.length_pos_iff.2 (fun h => by rw [h] at hy; simp at hy), HA.out⟩, rfl, HOW.out, HBW.out⟩
        · have j1 : ¬ (m1 : Int) < n := by omega
          have j3 : decide ((m1 : Int) < n) = false := by simpa using j1
          clear hend
          go_wp2
          go_ret
          obtain ⟨y, hy, hp⟩ := HS.out.1 (by first | rfl | trivial)
          exact ⟨A1, m1, c1, gs, ⟨⟨fun z hz => (HA.out z hz).1, y, hy, hp⟩, by rw [HL.out]; omega, List.length_pos_iff.2 (fun h => by rw [h] at hy; simp at hy), HA.out⟩, rfl, HOW.out, HBW.out⟩
      | false =>
        have Hsrc := Lib.hid (Src.oneV (P := Try.prog) wr 36 3 Try.underlying36 (.int .i64 3) rfl 3)
        have hgd : GoodS (gs ++ [3]) := by
          refine ⟨⟨fun z hz => ?_, 3, by simp, by omega⟩, by simp [HL.out]; omega, by simp, fun z hz => ?_⟩
          · rcases List.mem_append.1 hz with hz | hz
            · exact (HA.out z hz).1
            · simp at hz; omega
          · rcases List.mem_append.1 hz with hz | hz
            · exact HA.out z hz
            · simp at hz; omega
        have HGD := Lib.hid hgd
        clear hgd
        by_cases h1 : m1 < n
        · have j1 : (m1 : Int) < n := by omega
          have j2 : ¬ (m1 : Int) < 5 := by omega
          have j3 : decide ((m1 : Int) < 5) = false := by simpa using j2
          clear hend
          go_wp2_with (at_builtin; go_must (refine wpList_appendV intsElem rfl (.tmp 33) (.tmp 34) 36 rfl w.heap.size A1 m1 c1 (iv gs) rfl (HOW.out.alloc _) _ rfl 1 [.int .i64 3] Hsrc.out (by omega) (by omega) (by simp; omega) ?_); intro A2 n2 c2 l2 w2 hl2 hn2 hown2 hb2 hg2; simp only [Act.put, List.setIfInBounds_toArray, List.set_cons_succ, List.set_cons_zero])
          go_ret
          rw [hl2.out] at hown2
          exact ⟨A2, n2, c2, gs ++ [3], HGD.out, rfl, by rw [iv_append]; exact hown2, HBW.out.trans (((Below.refl _ _).alloc hsz _).trans hb2)⟩
        · have j1 : ¬ (m1 : Int) < n := by omega
          have j3 : decide ((m1 : Int) < n) = false := by simpa using j1
          clear hend
          go_wp2_with (at_builtin; go_must (refine wpList_appendV intsElem rfl (.tmp 33) (.tmp 34) 36 rfl w.heap.size A1 m1 c1 (iv gs) rfl (HOW.out.alloc _) _ rfl 1 [.int .i64 3] Hsrc.out (by omega) (by omega) (by simp; omega) ?_); intro A2 n2 c2 l2 w2 hl2 hn2 hown2 hb2 hg2; simp only [Act.put, List.setIfInBounds_toArray, List.set_cons_succ, List.set_cons_zero])
          go_ret
          rw [hl2.out] at hown2
          exact ⟨A2, n2, c2, gs ++ [3], HGD.out, rfl, by rw [iv_append]; exact hown2, HBW.out.trans (((Below.refl _ _).alloc hsz _).trans hb2)⟩

/-- How long a piece is. -/
theorem piece_len : ∀ (f : Nat) (ns : List Int) (at_ : Nat) (L : List (List UInt8)), 0 < ns.length → at_ < ns.length → ∀ (i : Nat) (p : List UInt8), (pieces f ns at_ L)[i]? = some p →
    p.length = min (ns.getD ((at_ + i) % ns.length) 0).toNat (total L - ((pieces f ns at_ L).take i).flatten.length)
  | 0, ns, at_, L, _, _, i, p, h => by simp [pieces] at h
  | f + 1, ns, at_, L, hn, hat, i, p, h => by
    unfold pieces at h ⊢
    split at h
    · simp at h
    · rename_i h0
      rw [if_neg h0]
      cases i with
      | zero =>
        simp at h
        subst h
        unfold pieceOf takeN
        rw [List.length_take, Nat.add_zero, Nat.mod_eq_of_lt hat]
        simp only [total]
        simp
      | succ i =>
        have h' : (pieces f ns (nextAt ns at_) (nextL ns at_ L))[i]? = some p := by simpa using h
        have := piece_len f ns (nextAt ns at_) (nextL ns at_ L) hn (nextAt_lt _ hn) i p h'
        rw [this]
        have e1 : (nextAt ns at_ + i) % ns.length = (at_ + (i + 1)) % ns.length := by
          unfold nextAt
          rw [Nat.mod_add_mod]
          congr 1
          omega
        have e2 : (pieceOf ns at_ L).length = takeN ns at_ L := by
          unfold pieceOf
          rw [List.length_take]
          unfold takeN total
          omega
        rw [e1, nextL_total, List.take_succ_cons, List.flatten_cons, List.length_append, e2]
        congr 1
        omega
end Go.Proofs.Ytojbehblgmpbgaa
