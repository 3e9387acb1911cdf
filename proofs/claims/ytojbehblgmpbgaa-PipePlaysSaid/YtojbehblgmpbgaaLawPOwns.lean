/-
  Layer 5: the law PipeOwns.
-/
import Derived.Test.YtojbehblgmpbgaaLawPFull
namespace Go.Proofs.Ytojbehblgmpbgaa
open Go.RowKit Go.Conc
set_option linter.unusedVariables false
set_option linter.unusedSimpArgs false

/-- append of bytes onto bytes of the call's own; where they lie then. -/
theorem wpList_appendBx {P : Program} {w : World} {ops : Array Oper} {rest : List Oper} {o : Oper} {a : Act} {Q : Exit → Act → World → Prop} {t : TypeId} (el : Elem P t 5 (.int .u8 0) 1 1)
    (hgd : o.guard = none) (s x : Operand) (u : TypeId) (ho : o.op = .call { callee := .builtin .append, args := #[s, x], argTypes := #[t, u] })
    (base : Nat) (A0 : Option Addr) (n0 c0 : Nat) (l1 : List UInt8) (hs : a.eval s = .slice A0 n0 c0) (hown : OwB w base A0 n0 c0 l1)
    (xv : Value) (hx : a.eval x = xv) (m : Nat) (l2 : List UInt8) (hsrc : Src P w u 1 xv m (bv l2))
    (h63 : n0 + m ≤ 1073741824) (hbase : base ≤ w.heap.size)
    (h : ∀ (A : Option Addr) (n c : Nat) (l' : List UInt8) (w' : World), Hid (l' = l1 ++ l2) → Hid (n = n0 + m) → OwB w' base A n c l' → Below base w w' → w.grownBy w' (A0.map (·.block)) → Hid (A.map (·.block) = A0.map (·.block) ∨ A.map (·.block) = some w.heap.size) →
      wpList P ops Q rest (a.put o.dst (.slice A n c)) w') : wpList P ops Q (o :: rest) a w := by
  refine wpList_append_mine el hgd s x u ho base (.slice A0 n0 c0) n0 (bv l1) hs hown xv hx m (bv l2) hsrc h63 (by omega) hbase ?_
  intro A c w' ho' hg hblk
  have hr : (Value.slice A0 n0 c0).ownBlock = A0.map (·.block) := by cases A0 <;> rfl
  have hr' : (Value.slice A (n0 + m) c).ownBlock = A.map (·.block) := by cases A <;> rfl
  rw [hr] at hg hblk
  rw [hr'] at hblk
  refine h A (n0 + m) c (l1 ++ l2) w' rfl rfl ?_ ⟨hg.os, hg.tape, hg.output, hg.size, fun k hk => hg.block k (by omega) (fun e => ?_)⟩ hg (Lib.hid hblk)
  · unfold OwB
    rw [bv_append]
    exact ho'
  · have := (Own.lt hown k (by rw [hr]; exact e.symm)).1
    omega

/-- The block of a slice's row. -/
def OfA (A : Option Addr) : Nat → Prop := fun k => A.map (·.block) = some k
theorem Own.keepsAt {w w' : World} {G : Nat → Prop} {base : Nat} {e : TypeId} {size n c : Nat} {A : Option Addr} {xs : List Value} (h : Own w base e size (.slice A n c) n xs) (k : Keeps G w w') (hG : ∀ k, OfA A k → ¬ G k) : Own w' base e size (.slice A n c) n xs := by
  have hlt := h.lt
  refine ⟨h.1, ?_⟩
  rcases h.2 with h2 | ⟨g, cap, cur, fz, hv, hbg, hh, r⟩
  · exact .inl h2
  · injection hv with h1 h2 h3
    subst h1
    subst h3
    exact .inr ⟨g, c, cur, fz, rfl, hbg, (k.block g (hlt g rfl).2 (hG g rfl)).trans hh, r⟩
/-- Bytes, as numbers. -/
def OwN (w : World) (base : Nat) (A : Option Addr) (n c : Nat) (zs : List Int) : Prop := Own w base 5 1 (.slice A n c) n (zs.map (Value.int .u8))
theorem OwB.owN {w : World} {base n c : Nat} {A : Option Addr} {l : List UInt8} (h : OwB w base A n c l) : OwN w base A n c (l.map fun x => (x.toNat : Int)) := by
  unfold OwN
  rw [List.map_map]
  exact h
theorem OwN.len {w : World} {base n c : Nat} {A : Option Addr} {zs : List Int} (h : OwN w base A n c zs) : zs.length = n := by have := h.1; simpa using this
/-- A store into it. -/
theorem OwN.at_ {w : World} {base n c : Nat} {A : Option Addr} {zs : List Int} (h : OwN w base A n c zs) {j : Nat} (hj : j < n) : ∃ g z, A = some ⟨g, 0, none⟩ ∧ w.cell? ⟨g, j, none⟩ = some (.int .u8 z) ∧ w.frozen? ⟨g, j, none⟩ = false ∧ ∀ z', OwN (w.setCell ⟨g, j, none⟩ (.int .u8 z')) base A n c (zs.set j z') := by
  have hlen := h.len
  obtain ⟨g, hA, _, _⟩ : ∃ g, A = some ⟨g, 0, none⟩ ∧ base ≤ g ∧ g < w.heap.size := OwV.blk h (by omega)
  subst hA
  have hst := fun u => Own.store h j hj u
  obtain ⟨b, off, u, e, _, hu, hc⟩ := Reads.at_ (Own.reads h) hj
  injection e with e
  injection e with e1 e2
  subst e1
  subst e2
  rw [Nat.zero_add] at hc
  obtain ⟨z, hz⟩ : ∃ z, u = .int .u8 z := by
    rw [List.getElem?_map] at hu
    cases hh : zs[j]? with
    | none => rw [hh] at hu; simp at hu
    | some z => rw [hh] at hu; simp at hu; exact ⟨z, hu.symm⟩
  subst hz
  refine ⟨_, z, rfl, hc, (hst (.int .u8 0)).2.1, fun z' => ?_⟩
  have := (hst (.int .u8 z')).2.2.1
  unfold OwN
  rw [List.map_set]
  exact this

/-- The relation of a loop that turns bytes. -/
def TnRel (w0 : World) (base : Nat) (A : Option Addr) (n c : Nat) (i : Value) (wr : World) : Prop := ∃ (j : Nat) (zs : List Int), j ≤ n ∧ i = .int .i64 j ∧ OwN wr base A n c zs ∧ Keeps (OfA A) w0 wr
/-- The relation of the loop of pieces. -/
def PoRel (w0 : World) (g ct cr : Nat) (D : Nat → Prop) (l : List UInt8) (v i : Value) (wr : World) : Prop :=
  ∃ (j : Nat) (A : Option Addr) (n c : Nat) (lb : List UInt8) (L : List (List UInt8)), j ≤ 9 ∧ i = .int .i64 j ∧ v = .slice A n c ∧ OwB wr w0.heap.size A n c lb ∧ PL wr g ct cr D [3] 0 L ∧ GoodL L ∧ Hid (lb ++ L.flatten = l) ∧ total L ≤ 20 - 3 * j ∧ Keeps (Tri g ct cr) w0 wr

theorem sizes_3 : Sizes [3] := ⟨by simp, by simp⟩
theorem may_3 : MayS (scr [3]) := by refine ⟨?_, 3, ?_, by omega⟩ <;> simp [scr]
theorem next3 (L : List (List UInt8)) : takeN [3] 0 L = min 3 (total L) := by simp [takeN]

set_option maxRecDepth 100000 in
set_option maxHeartbeats 4000000 in
theorem pipeOwns_walk (A0 : Option Addr) (n0 c0 : Nat) (l0 : List UInt8) (by_ : Int) (w : World) (h0 : RdB w w.heap.size A0 n0 l0) (hc0 : n0 ≤ c0) (hm0 : c0 ≤ maxLen) (b1 : 0 ≤ by_) (t1 : by_ ≤ 255) :
    Calls Try.prog 3 #[.slice A0 n0 c0, .int .u8 by_] w fun e w' => e = .returned (.bool true) ∧ Below w.heap.size w w' := by
  have H0 := Lib.hid h0
  have hrdv : RdV (w.alloc (.cells #[.int .i64 3] 3)) (w.alloc (.cells #[.int .i64 3] 3)).heap.size (some ⟨w.heap.size, 0, none⟩) 1 (iv [3]) := (RdV.new w (iv [3]) #[.int .i64 3] rfl 3 (0, 0)).more (by simp)
  have hb0 : Below w.heap.size w (w.alloc (.cells #[.int .i64 3] 3)) := (Below.refl _ _).alloc (Nat.le_refl _) _
  clear h0
  go_enter Try.func3, Try.ntmps3
  go_wp2_with fail
  refine (newp_any _ 1 1 [3] _ hrdv (by omega)).mono ?_
  rintro e w1 (⟨_, g, ct, cr, D, rfl, hpl, ht, hd, hb1⟩ | ⟨h, _⟩)
  · have hscr : scr [3] = [3] := by simp [scr]
    rw [hscr] at hpl
    have hlt := hpl.lt
    have HPL := Lib.hid hpl
    have hb01 := hb0.trans (hb1.mono hb0.size)
    have HB1 := Lib.hid hb01
    have hT : ∀ k, k < w.heap.size → ¬ Tri g ct cr k := fun k hk ht' => by have := ht k ht'; have := hb0.size; omega
    have HTT := Lib.hid hT
    have HLT := Lib.hid hlt
    have hw01 := hb01.size
    clear hpl ht hd hb0 hb1 hrdv hT hscr hlt hb01
    go_wp2_with fail
    refine (few_any A0 n0 c0 l0 20 _ (H0.out.up HB1.out) hc0 hm0 (by omega)).mono ?_
    rintro e w2 ⟨An, nn, cn, l, hl, rfl, hown, hb2⟩
    have hln : l.length ≤ 20 := by rw [hl.out, List.length_take]; omega
    have hnn : nn ≤ 20 := by rw [← hown.len]; exact hln
    have HOW := Lib.hid hown
    have HB2 := Lib.hid hb2
    have hw12 := hb2.size
    clear hown hb2
    go_wp2_with fail
    refine (send_any g ct cr D [3] 0 [] An nn cn l _ (HPL.out.up HB2.out) GoodL.nil HOW.out.rd (by omega)).mono ?_
    rintro e w3 hs
    have hs' : e = .returned (.int .i64 0) ∧ ∃ D', PL w3 g ct cr D' [3] 0 (absL l []) ∧ GoodL (absL l []) ∧ (∀ k, D' k → D k ∨ w2.heap.size ≤ k) ∧ Keeps (Tri g ct cr) w2 w3 := by
      rcases hs with ⟨rfl, rfl, rfl⟩ | ⟨_, h, _⟩ | ⟨hl0, _, rfl, D', hp, _, hD2, hk⟩
      · exact ⟨rfl, D, HPL.out.up HB2.out, GoodL.nil, fun k hk => .inl hk, Keeps.refl _ _⟩
      · simp at h
      · have e : absL l [] = [] ++ [l] := by simp [absL, hl0]
        rw [e]
        exact ⟨rfl, D', hp, GoodL.nil.snoc (by simp) hl0 (by omega), hD2, hk⟩
    clear hs
    obtain ⟨rfl, D', hpl3, hgl, hD', hk3⟩ := hs'
    have hA1 : ∀ k, OfA An k → w1.heap.size ≤ k ∧ k < w2.heap.size := fun k hk => by
      have := Own.lt HOW.out k (by cases An with | none => cases hk | some a => exact hk)
      exact this
    have hAT : ∀ k, OfA An k → ¬ Tri g ct cr k := fun k hk ht => by have := hA1 k hk; have := HLT.out.1 k ht; omega
    have hTA : ∀ k, Tri g ct cr k → ¬ OfA An k := fun k ht hk => hAT k hk ht
    have hDA : ∀ k, D' k → ¬ OfA An k := fun k hk ha => by
      have h1 := hA1 k ha
      rcases hD' k hk with h | h
      · have := HLT.out.2 k h; omega
      · omega
    have hkA : ∀ k, k < w.heap.size → ¬ OfA An k := fun k hk ha => by have := hA1 k ha; omega
    have hown3 : OwN w3 w1.heap.size An nn cn _ := OwB.owN (l := l) (Own.keepsAt HOW.out hk3 hAT)
    have HPL3 := Lib.hid hpl3
    have HGL := Lib.hid hgl
    have HK3 := Lib.hid hk3
    have HO3 := Lib.hid hown3
    have HTA := Lib.hid hTA
    have HDA := Lib.hid hDA
    have HKA := Lib.hid hkA
    have hw23 := hk3.size
    clear hpl3 hgl hk3 hown3 hTA hDA hAT hA1 hD' hkA
    go_wp2
    go_loopw [9] (fun i wr => TnRel w3 w1.heap.size An nn cn i wr) (fun i _ => nn - (intOf i).toNat)
    case atStart => exact ⟨0, _, by omega, rfl, HO3.out, Keeps.refl _ _⟩
    case round =>
      obtain ⟨j, zs, hj, rfl, how, hkp⟩ := hrel
      by_cases hlt : j < nn
      · obtain ⟨go, z, hA, hc, hf, hset⟩ := how.at_ hlt
        subst hA
        have hj0 : (0 : Int) ≤ j := by omega
        have hjn : (j : Int) < nn := by omega
        have HSET := Lib.hid hset
        have HKP := Lib.hid hkp
        clear hset how hkp
        go_wp2
        go_roundw
        case rel => exact ⟨j + 1, _, by omega, by go_num, HSET.out _, Keeps.setCell HKP.out (p := ⟨go, j, none⟩) (.inl rfl) _⟩
        case measure => simp [intOf]; omega
      · obtain rfl : j = nn := by omega
        have hjj : ¬ (j : Int) < j := by omega
        have hplr := HPL3.out.keeps hkp HTA.out HDA.out
        have hltr := hplr.lt
        have HPLr := Lib.hid hplr
        have HLTr := Lib.hid hltr
        have HKP := Lib.hid hkp
        clear how hkp hplr hltr
        obtain ⟨wA, rfl⟩ : ∃ x, x = wr := ⟨_, rfl⟩
        go_wp2
        go_loopw [10, 11] (fun v i wr' => PoRel wA g ct cr D' l v i wr') (fun _ i _ => 9 - (intOf i).toNat)
        case atStart => exact ⟨0, none, 0, 0, [], absL l [], by omega, rfl, rfl, OwB.nil _ _, HPLr.out, HGL.out, Lib.hid (by rw [flat_absL]; simp), by rw [total_absL]; simp [total]; omega, Keeps.refl _ _⟩
        case round =>
          obtain ⟨i, Ab, nb, cb, lb, L, hi, rfl, rfl, hback, hpl, hL, hcat, htot, hkp⟩ := hrel
          obtain ⟨wB, rfl⟩ : ∃ x, x = wr := ⟨_, rfl⟩
          have HBK := Lib.hid hback
          have HPLi := Lib.hid hpl
          have HLi := Lib.hid hL
          have HKi := Lib.hid hkp
          have hsz := hkp.size
          have hnb : nb ≤ 20 := by
            rw [← hback.len]
            have h1 := congrArg List.length hcat.out
            rw [List.length_append] at h1
            omega
          clear hback hpl hL hkp
          by_cases hlti : i < 9
          · have hi9 : (i : Int) < 9 := by omega
            go_wp2_with fail
            refine (next_both g ct cr D' [3] 0 L _ HPLi.out HLi.out sizes_3 (by simp)).mono ?_
            rintro e w4 hnx
            have hnx' : ∃ Ax nx cx ox, ∃ ok : Bool, ∃ L', e = .returned (.tuple #[.slice Ax nx cx, .bool ok]) ∧ OwB w4 wB.heap.size Ax nx cx ox ∧ PL w4 g ct cr D' [3] 0 L' ∧ GoodL L' ∧ ox ++ L'.flatten = L.flatten ∧ total L' ≤ total L - 3 ∧ ox.length ≤ 20 ∧ Keeps (Tri g ct cr) wB w4 := by
              rcases hnx with ⟨rfl, rfl, rfl⟩ | ⟨_, A', n', c', out, hout, rfl, hown, hpl4, hk4⟩
              · exact ⟨none, 0, 0, [], false, [], rfl, OwB.nil _ _, HPLi.out, GoodL.nil, rfl, by simp [total], by simp, Keeps.refl _ _⟩
              · refine ⟨A', n', c', out, true, _, rfl, hown, hpl4, nextL_good HLi.out, ?_, ?_, ?_, hk4⟩
                · rw [hout.out]; unfold pieceOf nextL; rw [eat_flat, List.take_append_drop]
                · rw [nextL_total, next3]; omega
                · rw [hout.out]; unfold pieceOf; rw [List.length_take, next3]; omega
            clear hnx
            obtain ⟨Ax, nx, cx, ox, ok, L', rfl, hownx, hpl4, hL', hcat', htot', hox, hk4⟩ := hnx'
            have hnx20 : nx ≤ 20 := by rw [← hownx.len]; exact hox
            have hback4 : OwB w4 wA.heap.size Ab nb cb lb := HBK.out.keeps hk4 (fun k hk ht => by have := HLTr.out.1 k ht; omega)
            have hxb : ∀ k, OfA Ax k → wB.heap.size ≤ k ∧ k < w4.heap.size := fun k hk => Own.lt hownx k (by cases Ax with | none => cases hk | some a => exact hk )
            have hbb : ∀ k, OfA Ab k → k < wB.heap.size := fun k hk => (Own.lt HBK.out k (by cases Ab with | none => cases hk | some a => exact hk )).2
            have hw4 := hk4.size
            have Hsrc := Lib.hid (hownx.rd.src (P := Try.prog) (c := cx) 22 5 Try.underlying22)
            have HBK4 := Lib.hid hback4
            have HOX := Lib.hid hownx
            have HPL4 := Lib.hid hpl4
            have HXB := Lib.hid hxb
            have HBB := Lib.hid hbb
            have HK4 := Lib.hid (HKi.out.trans hk4)
            have HL' := Lib.hid hL'
            have HCAT := Lib.hid hcat'
            clear hback4 hownx hpl4 hxb hbb hk4 hL' hcat'
            go_upto_region 16 with (at_builtin; go_must (refine wpList_appendBx bytesElem rfl (.tmp 55) (.tmp 56) 22 rfl wA.heap.size Ab nb cb lb rfl HBK4.out _ rfl nx ox Hsrc.out (by omega) (by omega) ?_); intro A5 n5 c5 l5 w5 hl5 hn5 hown5 hb5 hg5 hblk5; simp only [Act.put, List.setIfInBounds_toArray, List.set_cons_succ, List.set_cons_zero])
            have hx5 : OwN w5 wB.heap.size Ax nx cx _ := OwB.owN (l := ox) (Own.kept HOX.out hg5 (by
              cases hAx : Ax with
              | none => exact .inl rfl
              | some a =>
                refine .inr fun e => ?_
                have h1 := HXB.out a.block (by rw [hAx]; rfl)
                have h2 := HBB.out a.block (by unfold OfA; rw [← e]; rfl)
                omega))
            have hap : ∀ k, OfA A5 k → ¬ OfA Ax k := fun k h1 h2 => by
              have h3 := HXB.out k h2
              unfold OfA at h1
              rcases hblk5.out with h | h
              · have h4 := HBB.out k (by unfold OfA; rw [← h]; exact h1)
                omega
              · rw [h] at h1
                injection h1 with h1
                omega
            have hpl5 := HPL4.out.keeps (keeps_base hb5) (fun k hk h => by have := HLTr.out.1 k hk; omega) (fun k hk h => by have := HLTr.out.2 k hk; omega)
            have hk5 := HK4.out.andBelow hb5
            have hTX : ∀ k, Tri g ct cr k → ¬ OfA Ax k := fun k ht hx => by have := HXB.out k hx; have := HLTr.out.1 k ht; omega
            have hDX : ∀ k, D' k → ¬ OfA Ax k := fun k ht hx => by have := HXB.out k hx; have := HLTr.out.2 k ht; omega
            have hBX : ∀ k, k < wA.heap.size → ¬ OfA Ax k := fun k ht hx => by have := HXB.out k hx; omega
            have HX5 := Lib.hid hx5
            have HAP := Lib.hid hap
            have HPL5 := Lib.hid hpl5
            have HK5 := Lib.hid hk5
            have HO5 := Lib.hid hown5
            have HTX := Lib.hid hTX
            have HDX := Lib.hid hDX
            have HBX := Lib.hid hBX
            clear hx5 hap hpl5 hk5 hown5 hb5 hg5 hTX hDX hBX
            go_wp2
            go_loopw [14] (fun i wr2 => TnRel w5 wB.heap.size Ax nx cx i wr2) (fun i _ => nx - (intOf i).toNat)
            case atStart => exact ⟨0, _, by omega, rfl, HX5.out, Keeps.refl _ _⟩
            case round =>
              obtain ⟨q, zs, hq, rfl, how, hkp⟩ := hrel
              by_cases hltq : q < nx
              · obtain ⟨gx, z, hA, hc, hf, hset⟩ := how.at_ hltq
                subst hA
                have hq0 : (0 : Int) ≤ q := by omega
                have hqn : (q : Int) < nx := by omega
                have HSET := Lib.hid hset
                have HKP := Lib.hid hkp
                clear hset how hkp
                go_wp2
                go_roundw
                case rel => exact ⟨q + 1, _, by omega, by go_num, HSET.out _, Keeps.setCell HKP.out (p := ⟨gx, q, none⟩) (.inl rfl) _⟩
                case measure => simp [intOf]; omega
              · obtain rfl : q = nx := by omega
                have hqq : ¬ (q : Int) < q := by omega
                have hpl6 := HPL5.out.keeps hkp HTX.out HDX.out
                have hown6 : OwB wr wA.heap.size A5 n5 c5 l5 := Own.keepsAt HO5.out hkp HAP.out
                have hk6 : Keeps (Tri g ct cr) wA wr := HK5.out.andBelow (hkp.under HK5.out.size HBX.out)
                have HPL6 := Lib.hid hpl6
                have HO6 := Lib.hid hown6
                have HK6 := Lib.hid hk6
                clear hpl6 hown6 hk6 hkp how
                go_wp2
                go_roundw
                case rel => exact ⟨i + 1, A5, n5, c5, l5, L', by omega, by go_num, rfl, HO6.out, HPL6.out, HL'.out, Lib.hid (by rw [hl5.out, List.append_assoc, HCAT.out]; exact hcat.out), by omega, HK6.out⟩
                case measure => simp [intOf]; omega
          · obtain rfl : i = 9 := by omega
            have hT0 : total L = 0 := by omega
            have hL0 : L.flatten = [] := List.eq_nil_of_length_eq_zero hT0
            have hlb : lb = l := by have := hcat.out; rw [hL0] at this; simpa using this
            subst hlb
            have hbf : Below w.heap.size w wB := by
              have k1 : Keeps (fun k => Tri g ct cr k ∨ OfA An k) w w2 := Keeps.of_below (HB1.out.trans (HB2.out.mono hw01))
              have k2 := k1.trans (HK3.out.mono fun k _ h => .inl h)
              have k3 := k2.trans (HKP.out.mono fun k _ h => .inr h)
              have k4 := k3.trans (HKi.out.mono fun k _ h => .inl h)
              exact k4.under (Nat.le_refl _) fun k hk h => h.elim (HTT.out k hk) (HKA.out k hk)
            have HBF := Lib.hid hbf
            have ks := str_abv (w := wB.drew) (c := cb) (HBK.out.rd.drew)
            clear hbf
            go_upto_region 20 with fail
            refine wp_region_plan NoG [(0, false), (1, false), (2, false), (3, false), (4, false), (5, false), (6, true), (7, false), (8, false), (9, false), (10, false), (11, true), (12, false), (13, false)] (by kernel_rfl) (by kernel_rfl) ?_
            repeat (refine plan_take (by simp only [List.getElem?_toArray, List.getElem?_cons_succ, List.getElem?_cons_zero]; exact rfl) ?_; go_big_quiet_step (fail); refine wpQuiet_nil ?_)
            refine plan_solo (by simp only [List.getElem?_toArray, List.getElem?_cons_succ, List.getElem?_cons_zero]; exact rfl) ?_
            go_wp2_with fail
            refine (few_any A0 n0 c0 l0 20 _ ((H0.out.up HBF.out).drew) hc0 hm0 (by omega)).mono ?_
            rintro e w7 ⟨A7, n7, c7, l7, hl7, rfl, hown7, hb7⟩
            obtain rfl : lb = l7 := hl.out.trans hl7.out.symm
            clear ks
            have ks := str_abv (w := w7) (c := c7) hown7.rd
            have HB7 := Lib.hid hb7
            go_wp2
            refine Solo.up HB7.out ?_
            repeat (refine plan_take (by simp only [List.getElem?_toArray, List.getElem?_cons_succ, List.getElem?_cons_zero]; exact rfl) ?_; go_big_quiet_step (fail); refine wpQuiet_nil ?_)
            refine plan_solo (by simp only [List.getElem?_toArray, List.getElem?_cons_succ, List.getElem?_cons_zero]; exact rfl) ?_
            go_wp2_with fail
            refine (plives_any _).mono ?_
            rintro e w8 ⟨rfl, hb8⟩
            go_wp2
            refine Solo.up hb8 ?_
            repeat (refine plan_take (by simp only [List.getElem?_toArray, List.getElem?_cons_succ, List.getElem?_cons_zero]; exact rfl) ?_; go_big_quiet_step (fail); refine wpQuiet_nil ?_)
            refine plan_end ?_
            go_wp2
            go_ret
            exact ⟨rfl, HBF.out.trans ((Up.trans (below_of_drew HB7.out) hb8).mono HBF.out.size)⟩
  · exact absurd may_3 h
end Go.Proofs.Ytojbehblgmpbgaa
