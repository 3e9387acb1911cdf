/-
  The reference's Entries.
-/
import Derived.Test.YtanafeeekofejaaEntE
namespace Go.Proofs.Ytanafeeekofejaa
open Go.RowKit
set_option linter.unusedVariables false
set_option linter.unusedSimpArgs false

theorem Own.keepG {G : Nat → Prop} {w w' : World} {base : Nat} {e : TypeId} {size n : Nat} {v : Value} {xs : List Value} (h : Own w base e size v n xs) (k : Keeps G w w') (hG : ∀ b, v.ownBlock = some b → ¬ G b) : Own w' base e size v n xs := by
  have hlt := h.lt
  refine ⟨h.1, ?_⟩
  rcases h.2 with h2 | ⟨g, cap, cur, fz, rfl, hbg, hh, r⟩
  · exact .inl h2
  · exact .inr ⟨g, cap, cur, fz, rfl, hbg, (k.block g (hlt g rfl).2 (hG g rfl)).trans hh, r⟩
theorem OwR.keepG {G : Nat → Prop} {w w' : World} {base k n c : Nat} {e : TypeId} {A : Option Addr} {rs : List (List Value)} (h : OwR w base e k A n c rs) (hk : Keeps G w w') (hG : ∀ b, base ≤ b → b < w.heap.size → ¬ G b) : OwR w' base e k A n c rs :=
  ⟨h.1, h.2.1, Own.keepG h.2.2 hk (fun b hb => hG b (Own.lt h.2.2 b hb).1 (Own.lt h.2.2 b hb).2)⟩
def Or2 (a b : Nat) : Nat → Prop := fun k => k = a ∨ k = b

set_option maxHeartbeats 4000000 in
theorem refEntries_any (A0 : Option Addr) (n0 c0 : Nat) (L : List UInt8) (w : World) (h : RdB w w.heap.size A0 n0 L) (hn : n0 ≤ 1048576) (hnc : n0 ≤ c0) (hcm : c0 ≤ maxLen) :
    Calls Try.prog 30 #[.slice A0 n0 c0] w (EntsPost2 w (entsAux L.length L [])) := by
  have hLn : L.length = n0 := h.len
  have hLb : L.length ≤ 1048576 := by rw [hLn]; exact hn
  have hB0 := Blk.new w 77 [.slice A0 n0 c0, .int .i64 (0 : Nat), .int .i64 0]
  have hb0 : Below w.heap.size w (w.alloc (.cells #[.slice A0 n0 c0, .int .i64 (0 : Nat), .int .i64 0] 77)) := (Below.refl _ _).alloc (Nat.le_refl _) _
  have hR0 : RRb A0 n0 c0 L (w.alloc (.cells #[.slice A0 n0 c0, .int .i64 (0 : Nat), .int .i64 0] 77)) w.heap.size w.heap.size L 0 := ⟨0, hB0, h.alloc (Nat.le_refl _) _, hnc, hcm, Nat.zero_le _, Nat.le_refl _, fun _ => by rw [List.drop_zero], fun h => absurd rfl h⟩
  obtain ⟨g, hg⟩ : ∃ g, g = w.heap.size := ⟨_, rfl⟩
  obtain ⟨W, hW⟩ : ∃ W, W = w.alloc (.cells #[.slice A0 n0 c0, .int .i64 (0 : Nat), .int .i64 0] 77) := ⟨_, rfl⟩
  rw [← hW, ← hg] at hb0 hR0
  have hW3 : W = w.alloc (.cells #[.slice A0 n0 c0, .int .i64 0, .int .i64 0] 77) := hW
  have HLN := Lib.hid hLn
  have HG := Lib.hid hg
  have HB0 := Lib.hid hb0
  have HR0 := Lib.hid hR0
  clear hB0 hb0 hR0 hW hg h hLn
  go_enter Try.func30, Try.ntmps30
  go_wp2
  rw [← hW3, ← HG.out]
  clear hW3
  go_loopw [5] (fun v wr => EsRel L (g + 1) (fun wr l => RRb A0 n0 c0 L wr g g l 0) w v wr) (fun v _ => L.length - lenW v)
  case atStart => exact ⟨L.length, 0, 0, none, L, [], rfl, Nat.le_refl _, Lib.hid rfl, by omega, HR0.out, OwR.nil _ _ _ _, by rw [← HG.out]; exact HB0.out⟩
  case round =>
    obtain ⟨f, n, c, A, l, acc, rfl, hlf, hres, hnl, hRr, hO, hbw⟩ := hrel
    rw [← HG.out] at hbw
    have HRr := Lib.hid hRr
    obtain ⟨I, hblk, _, _, _, hIn, _, hld, _⟩ := hRr
    have hld := hld rfl
    have k1 := hblk.cell 1 _ rfl
    have hglt := hblk.lt
    have HO := Lib.hid hO
    have HB := Lib.hid hbw
    have hlen : l.length = n0 - I := by rw [hld, List.length_drop, HLN.out]
    have HLE := Lib.hid hlen
    clear hblk hO hbw hld
    by_cases hI : I < n0
    · have hI2 : (I : Int) < n0 := by omega
      have hl : l ≠ [] := by intro e; rw [e] at hlen; simp at hlen; omega
      obtain ⟨f', rfl⟩ : ∃ f', f = f' + 1 := ⟨f - 1, by omega⟩
      have hr2 : entsAux L.length L [] = if en1E l ≠ 0 then ([], en1E l) else if isName (en1S l) = false then ([], 16) else entsAux f' (en1L l) (acc ++ [(en1S l, en1I l, en1G l)]) := by
        rw [hres.out, entsAux, if_neg hl]
      have HR2 := Lib.hid hr2
      have HL2 := Lib.hid (en1L_lt l)
      have HTX := Lib.hid (tx_len l)
      have hE0 := Blk.new wr 53 [.string ⟨#[]⟩, .int .i64 0, .int .i64 0]
      have hRA := HRr.out.up ((Below.refl _ _).alloc (Nat.le_refl _) (.cells #[.string ⟨#[]⟩, .int .i64 0, .int .i64 0] 53))
      have hKA : Keeps (Or2 g wr.heap.size) wr (wr.alloc (.cells #[.string ⟨#[]⟩, .int .i64 0, .int .i64 0] 53)) := (Keeps.refl _ _).alloc _
      obtain ⟨gE, hgE⟩ : ∃ x, x = wr.heap.size := ⟨_, rfl⟩
      have hgE2 : g < gE := by rw [hgE]; exact hglt
      have HGE := Lib.hid hgE
      clear hr2 hl hres hlen
      go_upto_region 5 with fail
      rw [← HGE.out] at hE0 hKA ⊢
      generalize wr.alloc (.cells #[.string ⟨#[]⟩, .int .i64 0, .int .i64 0] 53) = wA at hE0 hRA hKA
      have hsA := hE0.lt
      have HE0 := Lib.hid hE0
      have HRA := Lib.hid hRA
      have HKA := Lib.hid hKA
      clear hE0 hRA hKA k1 hgE
      go_wp2_with fail
      refine (rbRText_any A0 n0 c0 L g g l 0 _ HRA.out).mono ?_
      rintro e w2 ⟨s, l2, e2, hs, hl2, he2, rfl, hR2, hK2⟩
      have hE2 := HE0.out.keeps hK2 (show ¬ gE = g by omega)
      have ku := hE2.cell 0 _ rfl
      have kf := hE2.free 0
      have hE2' := hE2.set 0 (.string (st s))
      have hk2' : Keeps (Is gE) w2 (w2.setCell ⟨gE, 0, none⟩ (.string (st s))) := (Keeps.refl (Is gE) w2).setCell (p := ⟨gE, 0, none⟩) (.inl rfl) _
      have hR2' := hR2.keeps hk2' (by omega) (by omega) (Nat.le_of_lt hE2.lt)
      have hKB := (HKA.out.trans (hK2.mono (G' := Or2 g gE) fun k _ e => .inl e)).trans (hk2'.mono fun k _ e => .inr e)
      clear hR2 hK2 hE2 HE0 HRA HKA
      go_upto_region 6 with fail
      generalize w2.setCell ⟨gE, 0, none⟩ (.string (st s)) = w3 at hE2' hR2' hKB hk2'
      have hs3 := hE2'.lt
      have HE3 := Lib.hid hE2'
      have HR3 := Lib.hid hR2'
      have HK3 := Lib.hid hKB
      clear hE2' hR2' hKB hk2' ku kf
      go_wp2_with fail
      refine (rbNumber_any A0 n0 c0 L g g l2 e2 4 _ HR3.out (by omega)).mono ?_
      rintro e w4 ⟨vi, l3, e3, hvi, hl3, he3, rfl, hR4, hK4⟩
      have hvib : vi ≤ 4294967295 := by rw [hvi.out]; exact num4_lt _ _
      have hwi := i64_u32 vi hvib
      have hE4 := HE3.out.keeps hK4 (show ¬ gE = g by omega)
      have ku := hE4.cell 1 _ rfl
      have kf := hE4.free 1
      have hE4' := hE4.set 1 (.int .i64 vi)
      have hk4' : Keeps (Is gE) w4 (w4.setCell ⟨gE, 1, none⟩ (.int .i64 vi)) := (Keeps.refl (Is gE) w4).setCell (p := ⟨gE, 1, none⟩) (.inl rfl) _
      have hR4' := hR4.keeps hk4' (by omega) (by omega) (Nat.le_of_lt hE4.lt)
      have hKB := (HK3.out.trans (hK4.mono (G' := Or2 g gE) fun k _ e => .inl e)).trans (hk4'.mono fun k _ e => .inr e)
      clear hR4 hK4 hE4 HE3 HR3 HK3
      go_upto_region 7 with fail
      generalize w4.setCell ⟨gE, 1, none⟩ (.int .i64 vi) = w5 at hE4' hR4' hKB hk4'
      have hs5 := hE4'.lt
      have HE5 := Lib.hid hE4'
      have HR5 := Lib.hid hR4'
      have HK5 := Lib.hid hKB
      clear hE4' hR4' hKB hk4' ku kf
      go_wp2_with fail
      refine (rbNumber_any A0 n0 c0 L g g l3 e3 4 _ HR5.out (by omega)).mono ?_
      rintro e w6 ⟨vg, l4, e4, hvg, hl4, he4, rfl, hR6, hK6⟩
      have hvgb : vg ≤ 4294967295 := by rw [hvg.out]; exact num4_lt _ _
      have hwg := i64_u32 vg hvgb
      have hE6 := HE5.out.keeps hK6 (show ¬ gE = g by omega)
      have ku := hE6.cell 2 _ rfl
      have kf := hE6.free 2
      have hE6' := hE6.set 2 (.int .i64 vg)
      have hk6' : Keeps (Is gE) w6 (w6.setCell ⟨gE, 2, none⟩ (.int .i64 vg)) := (Keeps.refl (Is gE) w6).setCell (p := ⟨gE, 2, none⟩) (.inl rfl) _
      have hR6' := hR6.keeps hk6' (by omega) (by omega) (Nat.le_of_lt hE6.lt)
      have hKB := (HK5.out.trans (hK6.mono (G' := Or2 g gE) fun k _ e => .inl e)).trans (hk6'.mono fun k _ e => .inr e)
      clear hR6 hK6 hE6 HE5 HR5 HK5
      go_upto_region 8 with fail
      generalize w6.setCell ⟨gE, 2, none⟩ (.int .i64 vg) = w7 at hE6' hR6' hKB hk6'
      have hO7 := HO.out.keepG hKB (fun b h1 h2 h => by
        have h' : b = g ∨ b = gE := h
        have := HGE.out
        omega)
      have hB7 : Below g w w7 := HB.out.trans (hKB.under (B := g) (Nat.le_of_lt hglt) (fun k hk h => by have h' : k = g ∨ k = gE := h; omega))
      have HE4 := Lib.hid (show e4 = en1E l by rw [he4.out, he3.out, hl3.out, he2.out, hl2.out]; rfl)
      have HL4 := Lib.hid (show l4 = en1L l by rw [hl4.out, he3.out, hl3.out, he2.out, hl2.out]; rfl)
      have HI4 := Lib.hid (show vi = en1I l by rw [hvi.out, he2.out, hl2.out]; rfl)
      have HG4 := Lib.hid (show vg = en1G l by rw [hvg.out, he3.out, hl3.out, he2.out, hl2.out]; rfl)
      have HS4 := Lib.hid (show s = en1S l from hs.out)
      have hsl : s.length ≤ 65536 := by have := HTX.out; rw [hs.out]; omega
      have HR7 := Lib.hid hR6'
      obtain ⟨I', hblk', _⟩ := hR6'
      have k2 := hblk'.cell 2 _ rfl
      have q0 := hE6'.cell 0 _ rfl
      have q1 := hE6'.cell 1 _ rfl
      have q2 := hE6'.cell 2 _ rfl
      have HE7 := Lib.hid hE6'
      have HO7 := Lib.hid hO7
      have HB7 := Lib.hid hB7
      have hs7 := hE6'.lt
      clear hE6' hKB hk6' ku kf hO7 hB7 hblk'
      by_cases he : e4 = 0
      · obtain rfl := he
        go_wp2_with fail
        refine (refName_any s _ hsl).mono ?_
        rintro e w8 ⟨rfl, rfl⟩
        cases hname : isName s with
        | false =>
          have hr3 : entsAux L.length L [] = ([], 16) := by rw [HR2.out, if_neg (by rw [← HE4.out]; simp), ← HS4.out, if_pos hname]
          have HR3 := Lib.hid hr3
          clear hr3 hname
          go_wp2
          go_ret2
          exact ⟨none, 0, 0, [], 16, Lib.hid (by rw [HR3.out]), Lib.hid (by rw [HR3.out]), rfl, OwR.nil _ _ _ _, by rw [← HG.out]; exact HB7.out⟩
        | true =>
          have hr3 : entsAux L.length L [] = entsAux f' l4 (acc ++ [(s, vi, vg)]) := by rw [HR2.out, if_neg (by rw [← HE4.out]; simp), ← HS4.out, if_neg (by rw [hname]; simp), ← HL4.out, ← HI4.out, ← HG4.out]
          have HR3 := Lib.hid hr3
          have hlen4 : l4.length + 10 ≤ l.length := by rw [HL4.out]; exact HL2.out HE4.out.symm
          have Hsrc := Lib.hid (Src.oneR (P := Try.prog) (k := 3) w7 47 53 Try.underlying47 (entC (s, vi, vg)) rfl (entC_one _) #[.string (st s), .int .i64 vi, .int .i64 vg] rfl 53)
          have hsz : g + 1 ≤ (w7.alloc (.cells #[.string (st s), .int .i64 vi, .int .i64 vg] 53)).heap.size := by simp; omega
          clear hr3 hname k2
          go_wp2_with (at_builtin; go_must (refine wpList_appendR entsElem rfl (.tmp 45) (.tmp 47) 47 rfl (g + 1) A n c (acc.map entC) rfl (HO7.out.alloc _) _ rfl (entC (s, vi, vg)) rfl Hsrc.out (by omega) (by omega) hsz ?_); intro A9 n9 c9 rs9 w9 hrs9 hn9 hown9 hb9 hg9)
          obtain rfl : n9 = n + 1 := hn9.out
          obtain rfl : rs9 = (acc ++ [(s, vi, vg)]).map entC := by rw [hrs9.out]; simp
          have HO9 := Lib.hid hown9
          have HB9 := Lib.hid ((HB7.out.alloc (by omega) (.cells #[.string (st s), .int .i64 vi, .int .i64 vg] 53)).trans (hb9.mono (by omega)))
          have HR9 := Lib.hid ((HR7.out.up ((Below.refl _ _).alloc (Nat.le_refl _) (.cells #[.string (st s), .int .i64 vi, .int .i64 vg] 53))).below hb9 (Nat.lt_succ_self _))
          clear hown9 hb9 hg9 q0 q1 q2
          go_wp2
          go_roundw
          case rel => exact ⟨f', n + 1, c9, A9, l4, acc ++ [(s, vi, vg)], rfl, by omega, HR3, by omega, HR9.out, HO9.out, by rw [← HG.out]; exact HB9.out⟩
          case measure => simp [lenW]; omega
      · have hr3 : entsAux L.length L [] = ([], e4) := by rw [HR2.out, if_pos (by rw [← HE4.out]; exact he), ← HE4.out]
        have HR3 := Lib.hid hr3
        have hne : (e4 == 0) = false := by simpa using he
        have k2' : ∀ p : Abv NoG w7.drew, p.val.cell? ⟨g, 2, none⟩ = some (.int .i64 e4) := cell_abv (w := w7.drew) k2 id
        clear hr3 q0 q1 q2
        go_wp2
        refine wp_region_plan NoG [(0, false), (1, false), (2, false), (3, false), (4, false), (5, false)] (by kernel_rfl) (by kernel_rfl) ?_
        repeat (refine plan_take (by simp only [List.getElem?_toArray, List.getElem?_cons_succ, List.getElem?_cons_zero]; exact rfl) ?_; go_big_quiet_step (fail); refine wpQuiet_nil ?_)
        refine plan_end ?_
        go_wp2
        go_ret2
        exact ⟨none, 0, 0, [], e4, Lib.hid (by rw [HR3.out]), Lib.hid (by rw [HR3.out]), rfl, OwR.nil _ _ _ _, by rw [← HG.out]; exact HB7.out.drew⟩
    · have hI2 : ¬ (I : Int) < n0 := by omega
      have hl : l = [] := List.eq_nil_of_length_eq_zero (by omega)
      have hr2 : entsAux L.length L [] = (acc, 0) := by rw [hres.out, hl]; cases f <;> rfl
      have HR2 := Lib.hid hr2
      clear hr2 hl hres hlen
      go_wp2
      go_ret2
      exact ⟨A, n, c, acc, 0, Lib.hid (by rw [HR2.out]), Lib.hid (by rw [HR2.out]), rfl, HO.out.lower (by have := HG.out; omega), by rw [← HG.out]; exact HB.out⟩
end Go.Proofs.Ytanafeeekofejaa
