/-
  Layer 2: the law LittleRound, walked.
-/
import Derived.Test.YthfepdgamhidgaaLittleS
import Derived.Test.YthfepdgamhidgaaLittleC
import Derived.Test.YthfepdgamhidgaaLittleQ
import Derived.Test.YthfepdgamhidgaaLawLReads
import Derived.Test.YthfepdgamhidgaaRowInW
namespace Go.Proofs.Ythfepdgamhidgaa
open Go.RowKit
set_option linter.unusedVariables false

theorem cell_abv {G : Nat → Prop} {w : World} {b o : Nat} {v : Value} (h : w.cell? ⟨b, o, none⟩ = some v) (hG : ¬ G b) : ∀ p : Abv G w, p.val.cell? ⟨b, o, none⟩ = some v :=
  fun p => (World.cell?_of_block (p.keeps.block b (World.block_lt_of_cell? w _ h) hG)).trans h
theorem Keeps.cell {G : Nat → Prop} {w w' : World} (k : Keeps G w w') {b o : Nat} {v : Value} (h : w.cell? ⟨b, o, none⟩ = some v) (hG : ¬ G b) : w'.cell? ⟨b, o, none⟩ = some v :=
  (World.cell?_of_block (k.block b (World.block_lt_of_cell? w _ h) hG)).trans h

def RnRel (w0 : World) (X : Nat → Nat) (T : Nat → List UInt8) (k : Nat) (v i : Value) (wr : World) : Prop :=
  ∃ (j n' c' : Nat) (A' : Option Addr) (l' : List UInt8), j ≤ k ∧ i = .int .i64 j ∧ v = .slice A' n' c' ∧ l' = fromL X T 0 j ∧ OwB wr w0.heap.size A' n' c' l' ∧ Below w0.heap.size w0 wr
def RnRel2 (w0 : World) (X : Nat → Nat) (T : Nat → List UInt8) (k g : Nat) (i : Value) (wr : World) : Prop :=
  ∃ (j : Nat) (l : List UInt8), j ≤ k ∧ i = .int .i64 j ∧ l = fromL X T j (k - j) ∧ Rdr wr g l 0 ∧ Below w0.heap.size w0 wr

theorem u64_at {w : World} {B n k : Nat} {A : Option Addr} {zs : List Int} (h : RdV w B A n (kv .u64 zs)) (hk : k < n) (hz : ∀ z ∈ zs, 0 ≤ z ∧ z ≤ 18446744073709551615) :
    ∃ b off x, A = some ⟨b, off, none⟩ ∧ b < B ∧ x = (zs.getD k 0).toNat ∧ x ≤ 18446744073709551615 ∧ w.cell? ⟨b, off + k, none⟩ = some (.int .u64 (x : Nat)) := by
  obtain ⟨b, off, u, h1, h2, h3, h4⟩ := h.at_ hk
  have hl : k < zs.length := by
    have := h.len
    simp [kv] at this
    omega
  simp only [kv, List.getElem?_map, List.getElem?_eq_getElem hl] at h3
  have hb := hz zs[k] (List.getElem_mem hl)
  have e : zs.getD k 0 = zs[k] := by simp [List.getD, List.getElem?_eq_getElem hl]
  refine ⟨b, off, zs[k].toNat, h1, h2, by rw [e], by omega, ?_⟩
  simp at h3
  rw [h4, ← h3]
  congr 2
  omega

set_option maxRecDepth 100000 in
set_option maxHeartbeats 8000000 in
theorem littleRound_walk (A0 : Option Addr) (n0 c0 : Nat) (zs : List Int) (A1 : Option Addr) (n1 c1 : Nat) (ls : List (List UInt8)) (w : World)
    (h0 : RdV w w.heap.size A0 n0 (kv .u64 zs)) (hz : ∀ z ∈ zs, 0 ≤ z ∧ z ≤ 18446744073709551615) (hn0 : n0 ≤ 9223372036854775807) (h1 : RdBB w w.heap.size A1 n1 ls) (hn1 : n1 ≤ 9223372036854775807) :
    Calls Try.prog 7 #[.slice A0 n0 c0, .slice A1 n1 c1] w fun e w' => e = .returned (.bool true) ∧ Below w.heap.size w w' := by
  obtain ⟨k1, hk1, hk1a, hk1b⟩ : ∃ k1 : Nat, (if (5 : Int) < n1 then (5 : Int) else n1) = k1 ∧ k1 ≤ 5 ∧ k1 ≤ n1 := by
    rcases Nat.lt_or_ge 5 n1 with h | h
    · exact ⟨5, by rw [if_pos (by omega)]; rfl, by omega, by omega⟩
    · exact ⟨n1, by rw [if_neg (by omega)], by omega, by omega⟩
  obtain ⟨k, hk, hk5, hka, hkb⟩ : ∃ k : Nat, (if k1 < n0 then (k1 : Int) else n0) = k ∧ k ≤ 5 ∧ k ≤ n0 ∧ k ≤ n1 := by
    rcases Nat.lt_or_ge k1 n0 with h | h
    · exact ⟨k1, by rw [if_pos h], by omega, by omega, by omega⟩
    · exact ⟨n0, by rw [if_neg (by omega)], by omega, by omega, by omega⟩
  obtain ⟨X, hX⟩ : ∃ X : Nat → Nat, X = fun j => (zs.getD j 0).toNat := ⟨_, rfl⟩
  obtain ⟨T, hT⟩ : ∃ T : Nat → List UInt8, T = fun j => (ls.getD j []).take 20 := ⟨_, rfl⟩
  have hT20 : ∀ j, (T j).length ≤ 20 := fun j => by rw [hT]; simp [List.length_take]; omega
  have items : ∀ j, j < k → ∀ W : World, Below w.heap.size w W → ∃ b off b' off' Ai ni ci li, A0 = some ⟨b, off, none⟩ ∧ b < w.heap.size ∧ A1 = some ⟨b', off', none⟩ ∧ X j ≤ 18446744073709551615 ∧ W.cell? ⟨b, off + j, none⟩ = some (.int .u64 (X j : Nat)) ∧ W.cell? ⟨b', off' + j, none⟩ = some (.slice Ai ni ci) ∧ RdB W W.heap.size Ai ni li ∧ ni ≤ ci ∧ ci ≤ maxLen ∧ T j = li.take 20 := by
    intro j hj W hW
    obtain ⟨b, off, x, e1, e2, e3, e4, e5⟩ := u64_at h0 (k := j) (by omega) hz
    obtain ⟨b', off', li, Ai, ni, ci, f1, f2, f3, f4, f5, f6, f7⟩ := h1.at_ (k := j) (by omega)
    have ex : X j = x := by rw [hX, e3]
    have et : T j = li.take 20 := by rw [hT]; simp [List.getD, f3]
    exact ⟨b, off, b', off', Ai, ni, ci, li, e1, e2, f1, by rw [ex]; exact e4, by rw [ex, hW.cell (p := ⟨b, off + j, none⟩) e2]; exact e5, by rw [hW.cell (p := ⟨b', off' + j, none⟩) f2]; exact f4, (f5.below hW).more hW.size, f6, f7, et⟩
  have IT := Lib.hid items
  have HT := Lib.hid hT20
  clear items hT20 hT hX h0 h1 hz
  go_enter Try.func7, Try.ntmps7
  go_wp2
  clear hk hk1
  go_loopw [5, 7] (fun v i wr => RnRel w X T k v i wr) (fun _ i _ => k - (intOf i).toNat)
  case atStart => exact ⟨0, 0, 0, none, [], by omega, rfl, rfl, rfl, OwB.nil _ _, Below.refl _ _⟩
  case round =>
    obtain ⟨j, n', c', A', l', hj, rfl, rfl, hl', hown', hbw⟩ := hrel
    have hln : n' ≤ 305 := by rw [← hown'.len, hl']; exact Nat.le_trans (fromL_length X T HT.out j 0) (by omega)
    have hcc := hown'.cap
    have HL := Lib.hid hl'
    have hsw := hbw.size
    clear hl'
    by_cases hlt : j < k
    · obtain ⟨b, off, b', off', Ai, ni, ci, li, hA0, hb0, hA1, hx, kx, ks, hri, hic, him, hTj⟩ := IT.out j hlt wr hbw
      subst hA0 hA1
      have HTJ := Lib.hid hTj
      clear hTj
      generalize hxg : X j = x at kx hx
      have HX := Lib.hid hxg
      clear hxg
      go_wp2_with fail
      (with_reducible refine (u64_any A' n' c' l' x _ hown'.rd hcc.1 (by omega) (by omega)).mono ?_)
      rintro e w1 ⟨Aa, na, ca, la, hla, rfl, howna, hba⟩
      have hna : na ≤ 400 := by rw [← howna.len, hla.out, List.length_append, le_length, hown'.len]; omega
      have hca := howna.cap
      have hb1 := hbw.trans (hba.mono hsw)
      have kxa := cell_later hba kx
      have ksa := cell_later hba ks
      go_wp2_with fail
      refine (few_any Ai ni ci li 20 _ (hri.up hba) hic him (by omega)).mono ?_
      rintro e w2 ⟨Af, nf, cf, s, hs, rfl, hownf, hbf⟩
      have hrf := Up.trans hba hbf
      have hnf : nf ≤ 20 := by rw [← hownf.len, hs.out, List.length_take]; omega
      have hls : s.length ≤ 20 := by rw [hownf.len]; exact hnf
      have hcvf := str_of (c := cf) hownf.rd (Below.refl _ _)
      go_wp2_with fail
      refine (text_any Aa na ca la s _ (howna.rd.up hbf) hca.1 (by omega) (by omega)).mono ?_
      rintro e w3 ⟨Ab, nb, cb, lb, hlb, rfl, hownb, hbb⟩
      have hnb : nb ≤ 500 := by rw [← hownb.len, hlb.out, List.length_append, List.length_append, le_length, howna.len]; omega
      have hcb := hownb.cap
      have hrb := Up.trans hrf hbb
      have kxb := cell_later hrb kx
      have ksb := cell_later hrb ks
      clear hcvf kxa ksa
      go_wp2_with fail
      refine (u16_any Ab nb cb lb (x % 65536) _ hownb.rd hcb.1 (by omega) (by omega)).mono ?_
      rintro e w4 ⟨Ac, nc, cc, lc, hlc, rfl, hownc, hbc⟩
      have hnc : nc ≤ 600 := by rw [← hownc.len, hlc.out, List.length_append, le_length, hownb.len]; omega
      have hccap := hownc.cap
      have hrc := Up.trans hrb hbc
      have kxc := cell_later hrc kx
      have ksc := cell_later hrc ks
      clear kxb ksb
      go_wp2_with fail
      refine (few_any Ai ni ci li 20 _ (hri.up hrc) hic him (by omega)).mono ?_
      rintro e w5 ⟨Ag, ng, cg, s', hs', rfl, howng, hbg⟩
      obtain rfl : s = s' := hs.out.trans hs'.out.symm
      have hng : ng ≤ 20 := by rw [← howng.len]; exact hls
      go_wp2_with fail
      (with_reducible refine (data_any Ac nc cc lc Ag ng cg s _ (hownc.rd.up hbg) hccap.1 (by omega) howng.rd (by omega)).mono ?_)
      rintro e w6 ⟨Ad, nd, cd, ld, hld, rfl, hownd, hbd⟩
      have hnd : nd ≤ 700 := by rw [← hownd.len, hld.out, List.length_append, List.length_append, le_length, hownc.len]; omega
      have hcd := hownd.cap
      have hrd := Up.trans hrc (Up.trans hbg hbd)
      have kxd := cell_later hrd kx
      clear kxc ksc
      go_wp2_with fail
      refine (u8_any Ad nd cd ld (x % 256) _ hownd.rd hcd.1 (by omega) (by omega)).mono ?_
      rintro e w7 ⟨Ae, ne, ce, le', hle, rfl, howne, hbe⟩
      have hne : ne ≤ 800 := by rw [← howne.len, hle.out, List.length_append, le_length, hownd.len]; omega
      have hce := howne.cap
      have hre := Up.trans hrd hbe
      have kxe := cell_later hre kx
      clear kxd
      go_wp2_with fail
      refine (u32_any Ae ne ce le' (x % 4294967296) _ howne.rd hce.1 (by omega) (by omega)).mono ?_
      rintro e w8 ⟨Ah, nh, ch, lh, hlh, rfl, hownh, hbh⟩
      have hrh := Up.trans hre hbh
      have hgl : ng = s.length := howng.len.symm
      have hfin : lh = fromL X T 0 (j + 1) := by
        rw [fromL_snoc, ← HL.out, Nat.zero_add, HTJ.out, HX.out, ← hs.out, hlh.out, hle.out, hld.out, hlc.out, hlb.out, hla.out, hgl, le_mod 2 x 65536 ⟨1, rfl⟩, le_mod 1 x 256 ⟨1, rfl⟩, le_mod 4 x 4294967296 ⟨1, rfl⟩]
        simp [recL, List.append_assoc]
      have HF := Lib.hid hfin
      have hb8 := hbw.trans (hrh.mono hsw)
      have hlow : w.heap.size ≤ w7.heap.size := Nat.le_trans hsw hre.size
      clear kx ks kxe hfin hgl
      go_wp2
      go_roundw
      case rel => exact ⟨j + 1, nh, ch, Ah, lh, by omega, by go_num, rfl, HF.out, hownh.lower hlow, hb8⟩
      case measure => simp [intOf]; omega
    · obtain rfl : j = k := by omega
      clear hlt
      go_wp2_with fail
      (with_reducible refine (read_any A' n' c' l' _ hown'.rd (by omega)).mono ?_)
      rintro e w2 ⟨g, rfl, hg, hR, hb2⟩
      have hb02 := hbw.trans (hb2.mono hsw)
      have hgw : w.heap.size ≤ g := Nat.le_trans hsw hg
      clear hown' hb2 hbw
      go_wp2
      go_loopw [9] (fun i wr => RnRel2 w X T j g i wr) (fun i _ => j - (intOf i).toNat)
      case atStart => exact ⟨0, l', by omega, rfl, HL.out, hR, hb02⟩
      case round =>
        obtain ⟨i, l, hi, rfl, hl, hRr, hbr⟩ := hrel
        have hsr := hbr.size
        by_cases hlt : i < j
        · obtain ⟨b, off, b', off', Ai, ni, ci, li, hA0, hb0, hA1, hx, kx, ks, hri, hic, him, hTj⟩ := IT.out i hlt _ hbr
          subst hA0 hA1
          obtain ⟨d, hd⟩ : ∃ d, j - i = d + 1 := ⟨j - i - 1, by omega⟩
          have hl2 : l = recL (X i) (T i) ++ fromL X T (i + 1) d := by rw [hl, hd]; rfl
          have hd2 : d = j - (i + 1) := by omega
          generalize hxg : X i = x at kx hx hl2
          generalize hsg : T i = s at hl2 hTj
          have HX := Lib.hid hxg
          generalize hfg : fromL X T (i + 1) d = r at hl2
          rw [recL_app] at hl2
          have hls : s.length ≤ 20 := by rw [← hsg]; exact HT.out i
          have hr305 : r.length ≤ 305 := by rw [← hfg]; exact Nat.le_trans (fromL_length X T HT.out d (i + 1)) (by omega)
          have HFG : Hid (r = fromL X T (i + 1) (j - (i + 1))) := by rw [← hd2]; exact hfg.symm
          have HTJ := Lib.hid hTj
          subst hl2
          clear hl hd hd2 hsg hxg hfg hTj
          go_wp2_with fail
          refine (few_any Ai ni ci li 20 _ hri hic him (by omega)).mono ?_
          rintro e w3 ⟨Af, nf, cf, s', hs', rfl, hownf, hbf⟩
          obtain rfl : s' = s := hs'.out.trans HTJ.out.symm
          have hcvf := str_of (c := cf) hownf.rd (Below.refl _ _)
          have hR3 := hRr.up hbf
          have kx3 := cell_later hbf kx
          have hbb0 : b < w.heap.size := hb0
          have hb03 := hbr.trans (hbf.mono hsr)
          clear kx ks
          go_wp2
          clear hcvf
          have hg3 := hR3.lt
          refine wp_region_plan (Is g) [(0, false), (2, false), (3, false), (4, false), (5, false), (1, true), (6, false), (7, false), (8, false), (10, false), (9, true), (11, false), (12, false), (13, false), (14, false), (16, false), (17, false), (18, false), (19, false), (20, false), (15, true), (21, false), (22, false), (23, false), (24, false), (27, false), (25, true), (26, false), (28, false), (29, false), (30, false), (31, false), (33, false), (34, false), (35, false), (36, false), (37, false), (32, true), (38, false), (39, false), (40, false), (41, false), (43, false), (44, false), (45, false), (46, false), (47, false), (42, true), (48, false), (49, false)] (by kernel_rfl) (by kernel_rfl) ?_
          have hnb : ¬ Is g b := by intro h; have : b = g := h; omega
          have q3 : ∀ p : Abv (Is g) w3.drew, p.val.cell? ⟨b, off + i, none⟩ = some (.int .u64 (x : Nat)) := cell_abv kx3 hnb
          repeat (refine plan_take (by simp only [List.getElem?_toArray, List.getElem?_cons_succ, List.getElem?_cons_zero]; exact rfl) ?_; go_big_quiet_step (fail); refine wpQuiet_nil ?_)
          refine plan_solo (by simp only [List.getElem?_toArray, List.getElem?_cons_succ, List.getElem?_cons_zero]; exact rfl) ?_
          go_wp2_with fail
          refine (rU64_any g _ 0 _ hR3.drew).mono ?_
          rintro e w4 ⟨v4, l4, e4, hv4, hl4, he4, rfl, hR4, hK4⟩
          obtain rfl : v4 = x := by rw [hv4.out, nxB_app _ _ 8 (le_length _ _), num_le_small 8 _ (by omega)]
          obtain rfl := hl4.out.trans (nxL_app _ _ 8 (le_length _ _))
          obtain rfl := he4.out.trans (nxE_app _ _ 8 (le_length _ _))
          go_wp2
          refine Solo.mk hK4 ?_
          have kx4 := hK4.cell kx3 hnb
          have q4 : ∀ p : Abv (Is g) w4, p.val.cell? ⟨b, off + i, none⟩ = some (.int .u64 (v4 : Nat)) := cell_abv kx4 hnb
          clear q3
          repeat (refine plan_take (by simp only [List.getElem?_toArray, List.getElem?_cons_succ, List.getElem?_cons_zero]; exact rfl) ?_; go_big_quiet_step (fail); refine wpQuiet_nil ?_)
          refine plan_solo (by simp only [List.getElem?_toArray, List.getElem?_cons_succ, List.getElem?_cons_zero]; exact rfl) ?_
          go_wp2_with fail
          refine (rText_any g _ 0 _ hR4).mono ?_
          rintro e w5 ⟨v5, l5, e5, hv5, hl5, he5, rfl, hR5, hK5⟩
          obtain ⟨t1, t2, t3⟩ := tx_app s' _ (by omega)
          obtain rfl := (hv5.out.trans t1).symm
          obtain rfl := hl5.out.trans t2
          obtain rfl := he5.out.trans t3
          clear t1 t2 t3
          go_wp2
          refine Solo.mk hK5 ?_
          have kx5 := hK5.cell kx4 hnb
          have q5 : ∀ p : Abv (Is g) w5, p.val.cell? ⟨b, off + i, none⟩ = some (.int .u64 (v4 : Nat)) := cell_abv kx5 hnb
          clear q4
          repeat (refine plan_take (by simp only [List.getElem?_toArray, List.getElem?_cons_succ, List.getElem?_cons_zero]; exact rfl) ?_; go_big_quiet_step (fail); refine wpQuiet_nil ?_)
          refine plan_solo (by simp only [List.getElem?_toArray, List.getElem?_cons_succ, List.getElem?_cons_zero]; exact rfl) ?_
          go_wp2_with fail
          refine (rU16_any g _ 0 _ hR5).mono ?_
          rintro e w6 ⟨v6, l6, e6, hv6, hl6, he6, rfl, hR6, hK6⟩
          have hz6 : (((v6 : Nat) : Int) != IntKind.u16.wrap (v4 : Int)) = false := by rw [hv6.out, nxB_app _ _ 2 (le_length _ _), num_le]; simp [IntKind.wrap, IntKind.bits, IntKind.signed]
          have hy6 : (((v6 : Nat) : Int) != (v4 : Int) % 65536) = false := by rw [hv6.out, nxB_app _ _ 2 (le_length _ _), num_le]; simp
          obtain rfl := hl6.out.trans (nxL_app _ _ 2 (le_length _ _))
          obtain rfl := he6.out.trans (nxE_app _ _ 2 (le_length _ _))
          go_wp2
          refine Solo.mk hK6 ?_
          have kx6 := hK6.cell kx5 hnb
          have q6 : ∀ p : Abv (Is g) w6, p.val.cell? ⟨b, off + i, none⟩ = some (.int .u64 (v4 : Nat)) := cell_abv kx6 hnb
          clear q5
          repeat (refine plan_take (by simp only [List.getElem?_toArray, List.getElem?_cons_succ, List.getElem?_cons_zero]; exact rfl) ?_; go_big_quiet_step (fail); refine wpQuiet_nil ?_)
          refine plan_solo (by simp only [List.getElem?_toArray, List.getElem?_cons_succ, List.getElem?_cons_zero]; exact rfl) ?_
          go_wp2_with fail
          refine (rData_any g _ 0 20 _ hR6 (by omega) (by omega) (by simp [le_length]; omega)).mono ?_
          rintro e w7 ⟨A7, m7, c7, l7, l7', e7, hl7, hl7', he7, rfl, hown7, hR7, hK7⟩
          obtain ⟨t1, t2, t3⟩ := dt_app s' _ 20 (by omega) (by omega)
          obtain rfl := (hl7.out.trans t1).symm
          obtain rfl := hl7'.out.trans t2
          obtain rfl := he7.out.trans t3
          clear t1 t2 t3
          have hg6 := hR6.lt
          have c7' := str_own (G := Is g) hown7 (by intro k hk hk2; have : k = g := hk2; omega)
          go_wp2
          refine Solo.mk hK7 ?_
          have kx7 := hK7.cell kx6 hnb
          have q7 : ∀ p : Abv (Is g) w7, p.val.cell? ⟨b, off + i, none⟩ = some (.int .u64 (v4 : Nat)) := cell_abv kx7 hnb
          clear q6 hz6 hy6
          repeat (refine plan_take (by simp only [List.getElem?_toArray, List.getElem?_cons_succ, List.getElem?_cons_zero]; exact rfl) ?_; go_big_quiet_step (fail); refine wpQuiet_nil ?_)
          refine plan_solo (by simp only [List.getElem?_toArray, List.getElem?_cons_succ, List.getElem?_cons_zero]; exact rfl) ?_
          go_wp2_with fail
          refine (rU8_any g _ 0 _ hR7).mono ?_
          rintro e w8 ⟨v8, l8, e8, hv8, hl8, he8, rfl, hR8, hK8⟩
          have hz8 : (((v8 : Nat) : Int) != IntKind.u8.wrap (v4 : Int)) = false := by rw [hv8.out, nxB_app _ _ 1 (le_length _ _), num_le]; simp [IntKind.wrap, IntKind.bits, IntKind.signed]
          have hy8 : (((v8 : Nat) : Int) != (v4 : Int) % 256) = false := by rw [hv8.out, nxB_app _ _ 1 (le_length _ _), num_le]; simp
          obtain rfl := hl8.out.trans (nxL_app _ _ 1 (le_length _ _))
          obtain rfl := he8.out.trans (nxE_app _ _ 1 (le_length _ _))
          clear c7'
          go_wp2
          refine Solo.mk hK8 ?_
          have kx8 := hK8.cell kx7 hnb
          have q8 : ∀ p : Abv (Is g) w8, p.val.cell? ⟨b, off + i, none⟩ = some (.int .u64 (v4 : Nat)) := cell_abv kx8 hnb
          clear q7
          repeat (refine plan_take (by simp only [List.getElem?_toArray, List.getElem?_cons_succ, List.getElem?_cons_zero]; exact rfl) ?_; go_big_quiet_step (fail); refine wpQuiet_nil ?_)
          refine plan_solo (by simp only [List.getElem?_toArray, List.getElem?_cons_succ, List.getElem?_cons_zero]; exact rfl) ?_
          go_wp2_with fail
          refine (rU32_any g _ 0 _ hR8).mono ?_
          rintro e w9 ⟨v9, l9, e9, hv9, hl9, he9, rfl, hR9, hK9⟩
          have hz9 : (((v9 : Nat) : Int) != IntKind.u32.wrap (v4 : Int)) = false := by rw [hv9.out, nxB_app _ _ 4 (le_length _ _), num_le]; simp [IntKind.wrap, IntKind.bits, IntKind.signed]
          have hy9 : (((v9 : Nat) : Int) != (v4 : Int) % 4294967296) = false := by rw [hv9.out, nxB_app _ _ 4 (le_length _ _), num_le]; simp
          obtain rfl := hl9.out.trans (nxL_app _ _ 4 (le_length _ _))
          obtain rfl := he9.out.trans (nxE_app _ _ 4 (le_length _ _))
          go_wp2
          refine Solo.mk hK9 ?_
          have kx9 := hK9.cell kx8 hnb
          have q9 : ∀ p : Abv (Is g) w9, p.val.cell? ⟨b, off + i, none⟩ = some (.int .u64 (v4 : Nat)) := cell_abv kx9 hnb
          clear q8 hz8 hy8
          repeat (refine plan_take (by simp only [List.getElem?_toArray, List.getElem?_cons_succ, List.getElem?_cons_zero]; exact rfl) ?_; go_big_quiet_step (fail); refine wpQuiet_nil ?_)
          refine plan_end ?_
          have hk39 : Keeps (Is g) w3 w9 := (Keeps.refl _ _).drew'.trans (hK4.trans (hK5.trans (hK6.trans (hK7.trans (hK8.trans hK9)))))
          have hb9 := hb03.trans (hk39.is hgw (by omega))
          clear q9 hz9 hy9 hK4 hK5 hK6 hK7 hK8 hK9
          go_wp2
          go_roundw
          case rel => exact ⟨i + 1, _, by omega, by go_num, HFG.out, hR9, hb9⟩
          case measure => simp [intOf]; omega
        · obtain rfl : i = j := by omega
          obtain rfl : l = [] := by rw [hl, Nat.sub_self]; rfl
          clear hl hlt
          go_wp2_with fail
          refine (rEnd_any g [] 0 _ hRr).mono ?_
          rintro e w3 ⟨rfl, rfl⟩
          have he : endE [] 0 = 0 := rfl
          rw [he]
          clear he
          go_wp2_with fail
          (with_reducible refine (lives_any _).mono ?_)
          rintro e w4 ⟨rfl, hb4⟩
          go_wp2
          go_ret
          exact ⟨rfl, hbr.trans (hb4.mono hsr)⟩
end Go.Proofs.Ythfepdgamhidgaa
