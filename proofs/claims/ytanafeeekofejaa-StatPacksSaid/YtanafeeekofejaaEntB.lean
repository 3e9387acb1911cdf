/-
  The law's helpers low and entries.
-/
import Derived.Test.YtanafeeekofejaaEntA
import Derived.Test.YtanafeeekofejaaPlan4
import Derived.Deep.CutBlock
namespace Go.Proofs.Ytanafeeekofejaa
open Go.RowKit
set_option linter.unusedVariables false
set_option linter.unusedSimpArgs false

theorem around_nat (n : Int) (m : Nat) (w : World) (h0 : -9223372036854775808 ≤ n) (h1 : n ≤ 9223372036854775807) (hm : 1 ≤ m) (hm2 : m ≤ 9223372036854775807) :
    Calls Try.prog 8 #[.int .i64 n, .int .i64 m] w fun e w' => e = .returned (.int .i64 ((up0 n % m).toNat : Nat)) ∧ w = w' := by
  refine (around_any n m w h0 h1 hm hm2).mono ?_
  rintro e w' ⟨k, hk, _, rfl, rfl⟩
  exact ⟨by rw [← hk.out]; rfl, rfl⟩

/-- What the row hands in of an entry. -/
abbrev EntI := List UInt8 × Int × Int
def eiC (e : EntI) : List Value := [.string (st e.1), .int .i64 e.2.1, .int .i64 e.2.2]
def EiOk (e : EntI) : Prop := -9223372036854775808 ≤ e.2.1 ∧ e.2.1 ≤ 9223372036854775807 ∧ -9223372036854775808 ≤ e.2.2 ∧ e.2.2 ≤ 9223372036854775807
/-- An entry of the small world. -/
def entP (e : EntI) : Ent := (ofW e.2.1, (up0 e.2.1 % 4294967296).toNat, (up0 e.2.2 % 4294967296).toNat)
theorem entP_ok (e : EntI) : EntOk (entP e) := by
  have h1 := ofW_ok e.2.1
  have a := Int.emod_lt_of_pos (up0 e.2.1) (show (0 : Int) < 4294967296 by omega)
  have b := Int.emod_lt_of_pos (up0 e.2.2) (show (0 : Int) < 4294967296 by omega)
  exact ⟨h1.1, h1.2, by show (up0 e.2.1 % 4294967296).toNat ≤ _; omega, by show (up0 e.2.2 % 4294967296).toNat ≤ _; omega⟩

theorem lowH_any (i g : Int) (w : World) (hi : -9223372036854775808 ≤ i ∧ i ≤ 9223372036854775807) (hg : -9223372036854775808 ≤ g ∧ g ≤ 9223372036854775807) :
    Calls Try.prog 37 #[.agg #[.int .i64 i, .int .i64 g]] w fun e w' => e = .returned (.agg #[.int .i64 ((up0 i % 4294967296).toNat : Nat), .int .i64 ((up0 g % 4294967296).toNat : Nat)]) ∧ Below w.heap.size w w' := by
  obtain ⟨x, hx⟩ : ∃ x, Hid (x = (up0 i % 4294967296).toNat) := ⟨_, Lib.hid rfl⟩
  obtain ⟨y, hy⟩ : ∃ x, Hid (x = (up0 g % 4294967296).toNat) := ⟨_, Lib.hid rfl⟩
  rw [← hx.out, ← hy.out]
  have hA0 := Blk.new w 32 [.int .i64 i, .int .i64 g]
  have hZ0 := Blk.new (w.alloc (.cells #[.int .i64 i, .int .i64 g] 32)) 32 [.int .i64 0, .int .i64 0]
  obtain ⟨W, hW⟩ : ∃ x, x = (w.alloc (.cells #[.int .i64 i, .int .i64 g] 32)).alloc (.cells #[.int .i64 0, .int .i64 0] 32) := ⟨_, rfl⟩
  have hA : Blk W w.heap.size 32 [.int .i64 i, .int .i64 g] := by rw [hW]; exact hA0.alloc _
  have hZ : Blk W (w.heap.size + 1) 32 [.int .i64 0, .int .i64 0] := by rw [hW]; simpa using hZ0
  have hb : Below w.heap.size w W := by rw [hW]; exact ((Below.refl _ _).alloc (Nat.le_refl _) _).alloc (by simp) _
  clear hA0 hZ0
  go_enter Try.func37, Try.ntmps37
  go_upto_region 1 with fail
  rw [← hW]
  clear hW
  have hA' := hA.drew
  have hZ' := hZ.drew
  refine wp_region_tq (Is (w.heap.size + 1)) (.t 0 (.t 1 (.t 3 (.t 4 (.q 2 (.q 5 (.q 6 (.s 7 .nil)))))))) (by kernel_rfl) (by kernel_rfl) ?_
  have a0 := cell_abv (G := Is (w.heap.size + 1)) (hA'.cell 0 _ rfl) (fun h => by have h' : w.heap.size = w.heap.size + 1 := h; omega)
  have a1 := cell_abv (G := Is (w.heap.size + 1)) (hA'.cell 1 _ rfl) (fun h => by have h' : w.heap.size = w.heap.size + 1 := h; omega)
  repeat (refine tq_take (by simp only [List.getElem?_toArray, List.getElem?_cons_succ, List.getElem?_cons_zero]; exact rfl) ?_; go_big_quiet_step (fail); refine wpQuiet_nil ?_)
  refine tq_call (d := some 5) (by simp only [List.getElem?_toArray, List.getElem?_cons_succ, List.getElem?_cons_zero]; exact rfl) rfl rfl 8 #[.int .i64 i, .int .i64 4294967296] (.int .i64 x) (fun W => by go_simp) (fun W _ => by have := around_nat i 4294967296 W hi.1 hi.2 (by omega) (by omega); rw [hx.out]; exact this) ?_
  simp only [Act.put, List.setIfInBounds_toArray, List.set_cons_succ, List.set_cons_zero]
  refine tq_call (d := some 8) (by simp only [List.getElem?_toArray, List.getElem?_cons_succ, List.getElem?_cons_zero]; exact rfl) rfl rfl 8 #[.int .i64 g, .int .i64 4294967296] (.int .i64 y) (fun W => by go_simp) (fun W _ => by have := around_nat g 4294967296 W hg.1 hg.2 (by omega) (by omega); rw [hy.out]; exact this) ?_
  simp only [Act.put, List.setIfInBounds_toArray, List.set_cons_succ, List.set_cons_zero]
  refine tq_val (d := some 9) (by simp only [List.getElem?_toArray, List.getElem?_cons_succ, List.getElem?_cons_zero]; exact rfl) rfl rfl (.agg #[.int .i64 x, .int .i64 y]) (fun W => by go_simp) ?_
  simp only [Act.put, List.setIfInBounds_toArray, List.set_cons_succ, List.set_cons_zero]
  refine tq_solo (by simp only [List.getElem?_toArray, List.getElem?_cons_succ, List.getElem?_cons_zero]; exact rfl) ?_
  go_wp2_with (refine wpList_storeBlk rfl (.tmp 2) (.tmp 9) rfl rfl [.int .i64 x, .int .i64 y] rfl rfl (by kernel_rfl) hZ' rfl (by simp [Value.oneCell']) ?_)
  refine Solo.mk (keeps_setRow _ _) ?_
  refine tq_end ?_
  have hF := hZ'.setRow [.int .i64 x, .int .i64 y]
  have z0 := hF.cell 0 _ rfl
  have z1 := hF.cell 1 _ rfl
  go_wp2
  exact bodyPost_ret (v := .agg #[.int .i64 x, .int .i64 y]) (by simp [results, Try.results37, go_sem, z0, z1]) rfl ⟨rfl, below_setRow hb.drew (by omega) _⟩

def EnRel (rs : List EntI) (n : Nat) (w : World) (v i : Value) (wr : World) : Prop :=
  ∃ (j c : Nat) (A : Option Addr) (os : List Ent), j ≤ n ∧ j ≤ 8 ∧ i = .int .i64 j ∧ v = .slice A j c ∧ Hid (os = (rs.take j).map entP) ∧ OwR wr w.heap.size 53 3 A j c (os.map entC) ∧ Below w.heap.size w wr
def EntsPost (w : World) (es : List Ent) (e : Ending) (w' : World) : Prop :=
  ∃ A n c es', Hid (es' = es) ∧ e = .returned (.slice A n c) ∧ OwR w' w.heap.size 53 3 A n c (es'.map entC) ∧ Below w.heap.size w w'

set_option maxHeartbeats 4000000 in
theorem entries_any (A0 : Option Addr) (n0 c0 : Nat) (rs : List EntI) (w : World) (h : RdR w w.heap.size 3 A0 n0 (rs.map eiC)) (hok : ∀ r ∈ rs, EiOk r) :
    Calls Try.prog 26 #[.slice A0 n0 c0] w (EntsPost w ((rs.take 8).map entP)) := by
  have hl : rs.length = n0 := by have := h.len; simpa using this
  have H := Lib.hid h
  have HL := Lib.hid hl
  have HOK := Lib.hid hok
  clear h hl hok
  go_enter Try.func26, Try.ntmps26
  go_wp2
  go_loopw [3, 4] (fun v i wr => EnRel rs n0 w v i wr) (fun _ i _ => 8 - (intOf i).toNat)
  case atStart => exact ⟨0, 0, none, [], by omega, by omega, rfl, rfl, Lib.hid rfl, OwR.nil _ _ _ _, Below.refl _ _⟩
  case round =>
    obtain ⟨j, c, A, os, hj, hj8, rfl, rfl, hos, hO, hbw⟩ := hrel
    by_cases hlt : j < n0 ∧ j < 8
    · obtain ⟨hlt1, hlt8⟩ := hlt
      have j0 : (0 : Int) ≤ j := by omega
      have j1 : (j : Int) < n0 := by omega
      have j8 : (j : Int) < 8 := by omega
      obtain ⟨b, off, r, hA, hbl, hr, _, hc⟩ := (H.out.below hbw).at_ hlt1
      subst hA
      have hjl : j < rs.length := by rw [HL.out]; exact hlt1
      obtain ⟨x, hx⟩ : ∃ x, x = rs[j] := ⟨_, rfl⟩
      rw [List.getElem?_map, List.getElem?_eq_getElem hjl, ← hx] at hr
      obtain rfl : r = eiC x := by simpa using hr.symm
      have hxo : EiOk x := by rw [hx]; exact HOK.out _ (List.getElem_mem hjl)
      have HT := Lib.hid (show (rs.take (j + 1)).map entP = (rs.take j).map entP ++ [entP x] by rw [List.take_add_one, List.getElem?_eq_getElem hjl, ← hx]; simp)
      obtain ⟨xs, xi, xg⟩ := x
      obtain ⟨o1, o2, o3, o4⟩ := hxo
      have hnb : ¬ From w.heap.size b := fun h => by have h' : w.heap.size ≤ b := h; omega
      have c1 := cell_abv (G := From w.heap.size) (w := wr.drew) (hc 1 _ rfl) hnb
      have c2 := cell_abv (G := From w.heap.size) (w := wr.drew) (hc 2 _ rfl) hnb
      have c2' : ∀ p : Abv (From w.heap.size) wr.drew, p.val.cell? ⟨b, off + j * 3 + 1 + 1, none⟩ = some (.int .i64 xg) := c2
      have HO := Lib.hid hO
      have HB := Lib.hid hbw
      clear hr hx hc hO hbw
      obtain ⟨p1, hp1⟩ : ∃ p, Hid (p = ofW xi) := ⟨_, Lib.hid rfl⟩
      obtain ⟨p2, hp2⟩ : ∃ p, Hid (p = (up0 xi % 4294967296).toNat) := ⟨_, Lib.hid rfl⟩
      obtain ⟨p3, hp3⟩ : ∃ p, Hid (p = (up0 xg % 4294967296).toNat) := ⟨_, Lib.hid rfl⟩
      have HP := Lib.hid (show entP (xs, xi, xg) = (p1, p2, p3) by rw [hp1.out, hp2.out, hp3.out]; rfl)
      go_wp2
      refine wp_region_tq (From w.heap.size) (.t 0 (.t 1 (.t 2 (.t 3 (.t 4 (.t 5 (.t 6 (.t 8 (.t 9 (.t 10 (.t 11 (.t 12 (.s 7 (.s 13 (.s 14 (.s 15 (.s 16 (.t 17 .nil)))))))))))))))))) (by kernel_rfl) (by kernel_rfl) ?_
      repeat (refine tq_take (by simp only [List.getElem?_toArray, List.getElem?_cons_succ, List.getElem?_cons_zero]; exact rfl) ?_; go_big_quiet_step (fail); refine wpQuiet_nil ?_)
      clear c1 c2 c2'
      refine tq_solo (by simp only [List.getElem?_toArray, List.getElem?_cons_succ, List.getElem?_cons_zero]; exact rfl) ?_
      go_wp2_with fail
      refine (of_small xi _ o1 o2).mono ?_
      rintro e w2 ⟨rfl, hb2⟩
      rw [← hp1.out]
      go_wp2
      refine Solo.up hb2 ?_
      refine tq_solo (by simp only [List.getElem?_toArray, List.getElem?_cons_succ, List.getElem?_cons_zero]; exact rfl) ?_
      go_wp2_with fail
      refine (lowH_any xi xg _ ⟨o1, o2⟩ ⟨o3, o4⟩).mono ?_
      rintro e w3 ⟨rfl, hb3⟩
      rw [← hp2.out, ← hp3.out]
      go_wp2
      refine Solo.up hb3 ?_
      have hO3 := (HO.out.drew.up hb2).up hb3
      have hB3 := HB.out.drew.trans ((Up.trans hb2 hb3).mono HB.out.size)
      have Hsrc := Lib.hid (Src.oneR (P := Try.prog) (k := 3) w3 47 53 Try.underlying47 (entC (p1, p2, p3)) rfl (entC_one _) #[.string (st p1), .int .i64 p2, .int .i64 p3] rfl 53)
      have hsz : w.heap.size ≤ (w3.alloc (.cells #[.string (st p1), .int .i64 p2, .int .i64 p3] 53)).heap.size := by have := hB3.size; simp; omega
      refine tq_solo (by simp only [List.getElem?_toArray, List.getElem?_cons_succ, List.getElem?_cons_zero]; exact rfl) ?_
      go_wp2
      refine Solo.up (Below.refl _ _) ?_
      refine tq_solo (by simp only [List.getElem?_toArray, List.getElem?_cons_succ, List.getElem?_cons_zero]; exact rfl) ?_
      go_wp2
      refine Solo.up ((Below.refl _ _).alloc (Nat.le_refl _) _) ?_
      refine tq_solo (by simp only [List.getElem?_toArray, List.getElem?_cons_succ, List.getElem?_cons_zero]; exact rfl) ?_
      go_wp2_with (at_builtin; go_must (refine wpList_appendR entsElem rfl (.tmp 15) (.tmp 30) 47 rfl w.heap.size A j c (os.map entC) rfl (hO3.alloc _) _ rfl (entC (p1, p2, p3)) rfl Hsrc.out (by omega) (by omega) hsz ?_); intro A4 n4 c4 rs4 w4 hrs4 hn4 hown4 hb4 hg4)
      refine Solo.mk (keeps_below hb4 fun k hk => by have hk' : ¬ w.heap.size ≤ k := hk; omega) ?_
      obtain rfl : n4 = j + 1 := hn4.out
      obtain rfl : rs4 = (os ++ [entP (xs, xi, xg)]).map entC := by rw [hrs4.out, HP.out]; simp
      repeat (refine tq_take (by simp only [List.getElem?_toArray, List.getElem?_cons_succ, List.getElem?_cons_zero]; exact rfl) ?_; go_big_quiet_step (fail); refine wpQuiet_nil ?_)
      refine tq_end ?_
      have HO4 := Lib.hid hown4
      have HB4 := Lib.hid ((hB3.alloc (by have := hB3.size; omega) (.cells #[.string (st p1), .int .i64 p2, .int .i64 p3] 53)).trans hb4)
      clear hown4 hb4 hg4 hO3 hB3
      go_wp2
      go_roundw
      case rel => exact ⟨j + 1, c4, A4, os ++ [entP (xs, xi, xg)], by omega, by omega, by go_num, rfl, Lib.hid (by rw [HT.out, hos.out]), HO4.out, HB4.out⟩
      case measure => simp [intOf]; omega
    · have hstop : (decide ((j : Int) < n0) = false ∧ decide (j < n0) = false) ∨ (j < n0 ∧ decide ((j : Int) < 8) = false ∧ decide (j < 8) = false) := by
        rcases Nat.lt_or_ge j n0 with h | h
        · right; exact ⟨h, by simp; omega, by simp; omega⟩
        · left; exact ⟨by simp; omega, by simp; omega⟩
      clear hlt
      have hos8 : os = (rs.take 8).map entP := by
        rw [hos.out]
        have hnl2 := HL.out
        rcases hstop with ⟨_, s2⟩ | ⟨_, _, s3⟩
        · have : n0 ≤ j := by simpa using s2
          rw [List.take_of_length_le (by omega), List.take_of_length_le (by omega)]
        · have : 8 ≤ j := by simpa using s3
          rw [show j = 8 by omega]
      have HOS := Lib.hid hos8
      clear hos8
      rcases hstop with ⟨s1, s2⟩ | ⟨s1, s2, s3⟩
      all_goals
        go_wp2
        go_ret
        exact ⟨A, j, c, os, HOS, rfl, hO, hbw⟩
end Go.Proofs.Ytanafeeekofejaa
