/-
  Layer 5: Send.
-/
import Derived.Test.YtojbehblgmpbgaaPipeB
namespace Go.Proofs.Ytojbehblgmpbgaa
open Go.RowKit Go.Conc
set_option linter.unusedVariables false
set_option linter.unusedSimpArgs false

theorem absL_snoc (f : List UInt8) (T : List (List UInt8)) (l : List UInt8) : absL f (T ++ [l]) = absL f T ++ [l] := by unfold absL; split <;> simp
theorem absL_le (f : List UInt8) (T : List (List UInt8)) : T.length ≤ (absL f T).length := by unfold absL; split <;> simp
theorem total_append (L M : List (List UInt8)) : total (L ++ M) = total L + total M := by simp [total]
theorem total_one (l : List UInt8) : total [l] = l.length := by simp [total]
theorem GoodL.snoc {L : List (List UInt8)} {l : List UInt8} (h : GoodL L) (hn : L.length < 64) (hl : l ≠ []) (hl2 : l.length ≤ 1000) : GoodL (L ++ [l]) :=
  ⟨by simp; omega, fun x hx => by
    rcases List.mem_append.1 hx with hx | hx
    · exact h.2 x hx
    · simp at hx; subst hx; exact ⟨hl, hl2⟩⟩

section
variable {w w1 w2 : World} {g ct cr : Nat} {D G : Nat → Prop} {ns : List Int} {at_ : Nat} {f : List UInt8} {T : List (List UInt8)} {left : Int} {A : Option Addr} {n c : Nat} {Af : Option Addr} {nf cf : Nat} {buf rb : Array Value} {s r s2 r2 : Nat}
/-- A text was sent. -/
theorem PRaw.sent (h : PRaw w g ct cr D ns at_ f T left A n c Af nf cf buf rb s r s2 r2) (hk1 : Keeps (Is cr) w w1) {rb' : Array Value} {s2' r2' : Nat} (hrm : w1.heap[cr]? = some (.chan 64 rb' false s2' r2' false)) (hrb : rb'.size = rb.size + 1) (hb : Below w1.heap.size w1 w2)
    {A' : Option Addr} {n' c' : Nat} {l : List UInt8} (hown : OwB w2 w.heap.size A' n' c' l) (hn : 0 < n') (left' : Int) :
    ∃ D', PRaw ((w2.setChan ct 64 (buf.push (.slice A' n' c')) false (s + 1) r false).setCell ⟨g, 5, none⟩ (.int .i64 left')) g ct cr D' ns at_ f (T ++ [l]) left' A n c Af nf cf (buf.push (.slice A' n' c')) rb' (s + 1) r s2' r2' ∧
      (∀ k, D k → D' k) ∧ (∀ k, D' k → D k ∨ w.heap.size ≤ k) ∧ Keeps (Tri g ct cr) w ((w2.setChan ct 64 (buf.push (.slice A' n' c')) false (s + 1) r false).setCell ⟨g, 5, none⟩ (.int .i64 left')) := by
  obtain ⟨hg1, hg2⟩ := h.gt
  obtain ⟨b, hA, hbb, hbl⟩ := hown.blk hn
  have hlg := h.blk.lt
  have hlc := lt_of_some h.ch
  have hlr := lt_of_some h.rm
  have hsz1 := hk1.size
  have hk2 : Keeps (Is cr) w w2 := hk1.trans (Keeps.of_below hb)
  have hB2 : Blk w2 g _ _ := h.blk.keeps hk2 (fun e => hg2 e)
  have hc2 : w2.heap[ct]? = _ := (hk2.block ct hlc (fun e => h.ne e)).trans h.ch
  have hr2 : w2.heap[cr]? = _ := (hb.block cr (by omega)).trans hrm
  have hkT : Keeps (Tri g ct cr) w2 ((w2.setChan ct 64 (buf.push (.slice A' n' c')) false (s + 1) r false).setCell ⟨g, 5, none⟩ (.int .i64 left')) := (keeps_setChan w2 (.inr (.inl rfl)) _ _ _ _ _ _).setCell (.inl (.inl rfl)) _
  have hkA : Keeps (Tri g ct cr) w ((w2.setChan ct 64 (buf.push (.slice A' n' c')) false (s + 1) r false).setCell ⟨g, 5, none⟩ (.int .i64 left')) := (hk2.mono (fun k _ e => .inr (.inr e))).trans hkT
  have hd2 : ∀ k, (D k ∨ k = b) → ¬ Tri g ct cr k := fun k hk ht => by
    rcases hk with hk | rfl
    · exact h.data k hk ht
    · rcases ht with e | e | e <;> omega
  have hsub : ∀ k, D k → (D k ∨ k = b) := fun k hk => .inl hk
  refine ⟨fun k => D k ∨ k = b, ?_, hsub, ?_, hkA⟩
  · exact
      { blk := (hB2.setChan hg1.symm _ _ _ _ _ _).set 5 _
        ch := (Below.heap_setCell _ _ _ _ hg1.symm).trans (heap_setChan w2 ct _ _ _ _ _ _ (lt_of_some hc2))
        rm := (Below.heap_setCell _ _ _ _ hg2.symm).trans (by
          simp only [World.setChan]
          rw [Array.getElem?_setIfInBounds_ne h.ne]
          exact hr2)
        ne := h.ne
        dlt := fun k hk => by
          have := hkA.size
          have := hkT.size
          rcases hk with hk | rfl
          · have := h.dlt k hk; omega
          · omega
        dg := fun hk => hd2 _ hk (.inl rfl)
        dc := fun hk => hd2 _ hk (.inr (.inl rfl))
        dr := fun hk => hd2 _ hk (.inr (.inr rfl))
        sz := (h.sz.keeps hkA h.data).mono hsub
        nc := h.nc
        fi := (h.fi.keeps hkA h.data).mono hsub
        nfc := h.nfc
        cfm := h.cfm
        tx := by
          rw [Array.toList_push]
          refine TextsOk.snoc ((h.tx.keeps hkA h.data).mono hsub) ⟨A', n', c', rfl, hown.cap.1, hown.cap.2, ?_⟩
          have : RdF w2 (fun k => D k ∨ k = b) A' n' (bv l) := ⟨hown.rd, fun _ => ⟨_, hA, .inr rfl⟩⟩
          exact this.keeps hkT hd2
        rsz := by rw [hrb, h.rsz, absL_snoc]; simp }
  · rintro k (hk | rfl)
    · exact .inl hk
    · exact .inr hbb
end

theorem RdB.past {w w' : World} {B n cr : Nat} {A : Option Addr} {l : List UInt8} (h : RdB w B A n l) (k : Keeps (Is cr) w w') (hB : B ≤ w.heap.size) {a a' : Nat} {b b' : Array Value} {x x' : Bool} {s s' r r' : Nat} {t t' : Bool} (hc : w.heap[cr]? = some (.chan a b x s r t)) (hc' : w'.heap[cr]? = some (.chan a' b' x' s' r' t')) : RdB w' B A n l :=
  Reads.keep h fun p hp => by
    by_cases he : p.block = cr
    · simp [World.cell?, he, hc, hc']
    · exact World.cell?_of_block (k.block p.block (Nat.lt_of_lt_of_le hp hB) he)
/-- What Send leaves. -/
def SendPost (g ct cr : Nat) (D : Nat → Prop) (ns : List Int) (at_ : Nat) (L : List (List UInt8)) (l : List UInt8) (w : World) (e : Ending) (w' : World) : Prop :=
  (l = [] ∧ e = .returned (.int .i64 0) ∧ w' = w) ∨ (l ≠ [] ∧ 64 ≤ L.length ∧ e = .returned (.int .i64 5) ∧ w' = w) ∨
  (l ≠ [] ∧ L.length < 64 ∧ e = .returned (.int .i64 0) ∧ ∃ D', PL w' g ct cr D' ns at_ (L ++ [l]) ∧ (∀ k, D k → D' k) ∧ (∀ k, D' k → D k ∨ w.heap.size ≤ k) ∧ Keeps (Tri g ct cr) w w')

set_option maxHeartbeats 4000000 in
theorem send_any (g ct cr : Nat) (D : Nat → Prop) (ns : List Int) (at_ : Nat) (L : List (List UInt8)) (A1 : Option Addr) (n1 c1 : Nat) (l : List UInt8) (w : World) (h : PL w g ct cr D ns at_ L) (hL : GoodL L) (hr : RdB w w.heap.size A1 n1 l) (hn : n1 ≤ 1000) :
    Calls Try.prog 11 #[.pointer (some ⟨g, 0, none⟩), .slice A1 n1 c1] w (SendPost g ct cr D ns at_ L l w) := by
  have hlen := hr.len
  have HR := Lib.hid hr
  by_cases h0 : n1 = 0
  · subst h0
    have hl0 : l = [] := List.eq_nil_of_length_eq_zero hlen
    have HL0 := Lib.hid hl0
    clear h hr hlen hl0
    go_enter Try.func11, Try.ntmps11
    go_wp2
    go_ret
    exact .inl ⟨HL0.out, rfl, rfl⟩
  · have h0' : ((n1 : Int) == 0) = false := by simpa using h0
    have hl0 : l ≠ [] := by rintro rfl; simp at hlen; omega
    obtain ⟨f, T, A, n, c, Af, nf, cf, buf, rb, s, r, s2, r2, e, h⟩ := h
    have HP := Lib.hid h
    have HE := Lib.hid e
    have HL := Lib.hid hL
    have HL0 := Lib.hid hl0
    have HLen := Lib.hid hlen
    have k3 := h.blk.cell 3 _ rfl
    have hrm := h.rm
    have hrs := h.rsz
    rw [← e] at hrs
    obtain ⟨hg1, hg2⟩ := h.gt
    clear hr hl0 hlen hL
    by_cases hfull : 64 ≤ L.length
    · clear h e
      go_enter Try.func11, Try.ntmps11
      go_upto_region 5 with fail
      refine wp_region_commN 0 rfl ?_
      refine wpList_nil ⟨_, _, comm_sel_full (c := cr) (v := .agg #[]) (z := .agg #[]) rfl rfl (by simp [go_sem, scase]) hrm (by omega), ?_⟩
      simp only [List.drop, Act.put, List.setIfInBounds_toArray, List.set]
      go_wp2
      go_ret
      exact .inr (.inl ⟨HL0.out, hfull, rfl, rfl⟩)
    · have hk1 : Keeps (Is cr) w (w.setChan cr 64 (rb.push (.agg #[])) false (s2 + 1) r2 false) := keeps_setChan (G := Is cr) w (show Is cr cr from rfl) _ _ _ _ _ _
      have hrm1 := heap_setChan w cr 64 (rb.push (.agg #[])) false (s2 + 1) r2 false (lt_of_some hrm)
      have hB1 := h.blk.keeps hk1 (fun e => hg2 e)
      have k2 := hB1.cell 2 _ rfl
      have hc1 : (w.setChan cr 64 (rb.push (.agg #[])) false (s2 + 1) r2 false).heap[ct]? = _ := (hk1.block ct (lt_of_some h.ch) (fun e => h.ne e)).trans h.ch
      have hR1 := RdB.past HR.out hk1 (Nat.le_refl _) hrm hrm1
      have hbuf : buf.size < 64 := by
        have h1 := h.tx.1
        have h2 := absL_le f T
        rw [← e] at h2
        simp at h1
        omega
      have hlr := lt_of_some hrm
      clear h e
      go_enter Try.func11, Try.ntmps11
      go_upto_region 5 with fail
      refine wp_region_commN 0 rfl ?_
      refine wpList_nil ⟨_, _, comm_sel_send (c := cr) (v := .agg #[]) (z := .agg #[]) rfl rfl (by simp [go_sem, scase]) hrm (by omega), ?_⟩
      simp only [List.drop, Act.put, List.setIfInBounds_toArray, List.set]
      clear hrm k3
      have hsz : (w.setChan cr 64 (rb.push (.agg #[])) false (s2 + 1) r2 false).heap.size = w.heap.size := size_setChan _ _ _ _ _ _ _ _
      generalize w.setChan cr 64 (rb.push (.agg #[])) false (s2 + 1) r2 false = w1 at hk1 hrm1 hB1 k2 hc1 hsz hR1
      rw [← hsz] at hR1
      have HR1 := Lib.hid hR1
      have HK1 := Lib.hid hk1
      have HB1 := Lib.hid hB1
      have HRM := Lib.hid hrm1
      have HC1 := Lib.hid hc1
      have HSZ := Lib.hid hsz
      clear hk1 hB1 hrm1 hc1 hsz hR1
      go_upto_region 7 with fail
      have k2' := cell_abv (G := NoG) (w := w1.drew) k2 (fun h => h)
      refine wp_region_planC NoG 6 rfl rfl rfl [(0, false), (1, false), (2, false), (3, false), (4, false), (5, true), (6, false)] (by kernel_rfl) (by kernel_rfl) (by simp only [List.setIfInBounds_toArray, List.set, idle]; rfl) (by kernel_rfl) ?_
      repeat (refine plan_take (by simp only [List.getElem?_toArray, List.getElem?_cons_succ, List.getElem?_cons_zero]; exact rfl) ?_; go_big_quiet_step (fail); refine wpQuiet_nil ?_)
      refine plan_solo (by simp only [List.getElem?_toArray, List.getElem?_cons_succ, List.getElem?_cons_zero]; exact rfl) ?_
      go_wp2_with fail
      refine (cloneB_any A1 n1 c1 l _ HR1.out.drew (by omega)).mono ?_
      rintro e w2 ⟨A', n', c', l', hl', rfl, hown, hb⟩
      go_wp2
      refine Solo.up hb ?_
      repeat (refine plan_take (by simp only [List.getElem?_toArray, List.getElem?_cons_succ, List.getElem?_cons_zero]; exact rfl) ?_; go_big_quiet_step (fail); refine wpQuiet_nil ?_)
      refine plan_end ?_
      have hc2 := (hb.block ct (lt_of_some HC1.out)).trans HC1.out
      have hB2 := HB1.out.drew.up hb
      refine ⟨_, _, comm_send (c := ct) (v := .slice A' n' c') rfl rfl rfl rfl rfl hc2 hbuf, ?_⟩
      have hB3 := hB2.setChan (k := ct) hg1.symm 64 (buf.push (.slice A' n' c')) false (s + 1) r false
      have k5 := hB3.cell 5 _ rfl
      have f5 := hB3.free 5
      have hn' : n' = n1 := by rw [← hown.len, hl'.out]; exact HLen.out
      have hlow : w.heap.size ≤ w1.drew.heap.size := by rw [show w1.drew.heap.size = w1.heap.size from rfl, HSZ.out]; exact Nat.le_refl _
      have hfin := HP.out.sent (HK1.out.drew) HRM.out (by simp) hb (hown.lower hlow) (by omega) ((total L : Int) + n1)
      have htot := HL.out.total_le
      have HF := Lib.hid hfin
      have HL' := Lib.hid hl'
      clear hfin hl' hown hb hc2 hB2 hB3
      generalize w2.setChan ct 64 (buf.push (.slice A' n' c')) false (s + 1) r false = w3 at HF k5 f5
      have hi0 : (-9223372036854775808 : Int) ≤ (total L : Int) + n1 := by omega
      have hi1 : (total L : Int) + n1 ≤ 9223372036854775807 := by omega
      simp only [Act.put]
      go_wp2
      go_ret
      obtain ⟨D', hP, hD1, hD2, hK⟩ := HF.out
      rw [HL'.out] at hP
      have e : ((total (L ++ [l]) : Nat) : Int) = (total L : Int) + n1 := by rw [total_append, total_one, HLen.out]; omega
      have hpl : PL (w3.setCell ⟨g, 5, none⟩ (.int .i64 ((total L : Int) + n1))) g ct cr D' ns at_ (L ++ [l]) := by
        refine ⟨f, T ++ [l], A, n, c, Af, nf, cf, buf.push (.slice A' n' c'), rb.push (.agg #[]), s + 1, r, s2 + 1, r2, by rw [HE.out, absL_snoc], ?_⟩
        rw [e]
        exact hP
      exact .inr (.inr ⟨HL0.out, by omega, rfl, D', hpl, hD1, hD2, hK⟩)
end Go.Proofs.Ytojbehblgmpbgaa
