/-
  Layer 11: the iterator All.
-/
import Derived.Test.YtoaemkbdfinaoaaDirF
namespace Go.Proofs.Ytoaemkbdfinaoaa
open Go.RowKit
set_option linter.unusedVariables false
set_option linter.unusedSimpArgs false
attribute [local go_sem] Oper.semAt_some

/-- What an iterator hands to its yield. -/
def encE (e : EntI) : Array Value := #[.string (st e.1), .agg #[.int .i64 e.2.1, .int .i64 e.2.2]]
theorem grown_of_below {w w' : World} (h : Below w.heap.size w w') : w.grownBy w' none := ⟨h.os, h.tape, h.output, h.size, fun k hk _ => h.block k hk⟩
theorem cell_of_heap {w w' : World} {b o : Nat} {v : Value} (h : w'.heap[b]? = w.heap[b]?) (hc : w.cell? ⟨b, o, none⟩ = some v) : w'.cell? ⟨b, o, none⟩ = some v := by
  simp only [World.cell?] at hc ⊢
  rw [h]; exact hc
theorem cells_at {w : World} {b o : Nat} {v : Value} (hc : w.cell? ⟨b, o, none⟩ = some v) : ∃ cs t fz, w.heap[b]? = some (.cells cs t fz) := by
  obtain ⟨ob, h1, h2⟩ := cells_of_cell hc
  cases ob <;> simp [Obj.isCells] at h2
  exact ⟨_, _, _, h1⟩
theorem outB_alloc (Bo : Nat) (W : World) (o : Obj) (h : Bo < W.heap.size) : outB Bo (W.alloc o) = outB Bo W := by
  unfold outB World.cell?
  rw [show (W.alloc o).heap[Bo]? = W.heap[Bo]? from Below.heap_alloc _ _ _ h]
theorem outB_below (Bo : Nat) {W W' : World} (hb : Below W.heap.size W W') (h : Bo < W.heap.size) : outB Bo W' = outB Bo W := by
  unfold outB World.cell?
  rw [hb.block Bo h]

def AllJ (es : List EntI) (A' : Option Addr) (Bo nn : Nat) (w1 : World) (J : List EntI → World → Prop) (i : Value) (wr : World) : Prop :=
  ∃ k : Nat, k ≤ nn ∧ i = .int .i64 k ∧ J (es.take k) wr ∧ Hid (0 < nn → ∀ b, InBlk A' b → wr.heap[b]? = w1.heap[b]? ∧ outB Bo wr ≠ some b) ∧ w1.heap.size ≤ wr.heap.size
def AllR (es : List EntI) (J Jx : List EntI → World → Prop) (e : Ending) (W' : World) : Prop := (∃ v, e = .returned v) ∧ ((∃ ys, ys = es ∧ J ys W') ∨ (∃ pre, (∃ k, k ≤ es.length ∧ pre = es.take k) ∧ Jx pre W'))

set_option maxRecDepth 100000 in
set_option maxHeartbeats 4000000 in
theorem all1_in (n : Nat) (hn : 1 ≤ n) (l g Bd Bo : Nat) (G0 : Nat → Prop) (A : Option Addr) (nn c : Nat) (es : List EntI) (W : World) (h : Dr W g A nn c es) (hnn : nn ≤ 1000) (hBd : W.cell? ⟨Bd, 0, none⟩ = some (.pointer (some ⟨g, 0, none⟩)))
    (hG0 : ∀ k, G0 k → k < W.heap.size) (hBo : Bo < W.heap.size) (hout : ∀ b, outB Bo W = some b → b < W.heap.size) (J Jx : List EntI → World → Prop) (hJ : AbidesFrom W.heap.size J)
    (hY : ∀ pre x W1, J pre W1 → pre.length < es.length → YieldAt Fence.wide (n - 1) Try.prog l (encE x) W1 fun e W' => (e = .returned (.bool true) ∧ J (pre ++ [x]) W' ∧ KpB G0 Bo W1 W') ∨ (e = .returned (.bool false) ∧ Jx (pre ++ [x]) W'))
    (h0 : J [] W) :
    CallsIn Fence.wide n Try.prog 34 #[.func (.yield l) #[] #[], .pointer (some ⟨Bd, 0, none⟩)] W (AllR es J Jx) := by
  have hln := h.len
  have c0 := h.b.cell 0 _ rfl
  have H := Lib.hid h
  have HL := Lib.hid hln
  have HY := Lib.hid hY
  have HJ := Lib.hid hJ
  have HG0 := Lib.hid hG0
  have HOUT := Lib.hid hout
  have H00 := Lib.hid h0
  clear h hln hY hJ hG0 hout h0
  refine callsIn_of_wp Try.func34 rfl trivial ?_ rfl
  simp only [Try.ntmps34, List.size_toArray, List.length_cons, List.length_nil, Nat.reduceAdd, Nat.reduceSub, Array.replicate_succ, Array.replicate_zero, List.push_toArray, List.append_toArray, List.nil_append, List.cons_append]
  gi_wp2_with (refine ⟨trivial, ?_⟩; gi_at_call 35; refine (callsIn_wide.2 (clone_any A nn c es W H.out.o hnn)).mono ?_; rintro e w1 ⟨A', c', rfl, hrd, hfr, hb1⟩)
  have HR := Lib.hid hrd
  have HF := Lib.hid hfr
  have HB1 := Lib.hid hb1
  clear hrd hfr hb1 c0 hBd
  gi_loopw [11] (fun i wr => AllJ es A' Bo nn w1 J i wr) (fun i _ => nn - (intOf i).toNat)
  case atStart => exact ⟨0, Nat.zero_le _, rfl, HJ.out [] W w1 none H00.out (grown_of_below HB1.out) (fun r e => by cases e), Lib.hid (fun _ b hb => ⟨rfl, fun e => by
    rw [outB_below Bo HB1.out hBo] at e
    have := HOUT.out b e
    have := HF.out b hb
    omega⟩), Nat.le_refl _⟩
  case round =>
    obtain ⟨k, hk, rfl, hJs, hcl, hsz⟩ := hrel
    by_cases hlt : k < nn
    · have j1 : (k : Int) < nn := by omega
      have j0 : (0 : Int) ≤ k := by omega
      obtain ⟨b, off, r, hA, hbl, hr, _, hc⟩ := HR.out.at_ hlt
      have hcb := hcl.out (by omega) b (by rw [hA]; rfl)
      subst hA
      have hjl : k < es.length := by rw [HL.out]; exact hlt
      obtain ⟨x, hx⟩ : ∃ x, x = es[k] := ⟨_, rfl⟩
      have hxe : es[k]? = some x := by rw [List.getElem?_eq_getElem hjl, hx]
      rw [List.getElem?_map, hxe] at hr
      obtain rfl : r = eiC x := by simpa using hr.symm
      have d0 := cell_of_heap hcb.1 (hc 0 _ rfl)
      have d1 := cell_of_heap hcb.1 (hc 1 _ rfl)
      have d2 := cell_of_heap hcb.1 (hc 2 _ rfl)
      obtain ⟨csb, tb, fzb, hhb⟩ := cells_at (hc 0 _ rfl)
      simp only [Nat.add_zero] at d0
      have htk : es.take (k + 1) = es.take k ++ [x] := by rw [List.take_add_one, hxe]; rfl
      have hWr : W.heap.size ≤ wr.heap.size := Nat.le_trans HB1.out.size hsz
      have hbw : b < wr.heap.size := Nat.lt_of_lt_of_le hbl hsz
      obtain ⟨fn, tmps, assign, body, hy, hR⟩ := HY.out (es.take k) x (wr.alloc (.cells (eiC x).toArray 42)) (HJ.out _ _ _ none hJs (World.grownBy_alloc wr _ none) (fun r e => by cases e)) (by rw [List.length_take]; omega)
      have hR2 := Lib.hid hR
      have HCB := Lib.hid hcb
      have HHB := Lib.hid hhb
      have HTK := Lib.hid htk
      have hy' : (Instr.yield l #[.string (st x.1), .agg #[.int .i64 x.2.1, .int .i64 x.2.2]]).run Try.prog (wr.alloc (.cells #[.string (st x.1), .int .i64 x.2.1, .int .i64 x.2.2] 42)) = .ok (.round l fn tmps assign body) (wr.alloc (.cells #[.string (st x.1), .int .i64 x.2.1, .int .i64 x.2.2] 42)) := hy
      clear hy hR hcb hhb htk hr hx hc hcl hJs hxe
      gi_wp2
      refine hR2.out.mono ?_
      rintro e W3 (⟨rfl, hJ3, hk3⟩ | ⟨rfl, hJx3⟩)
      · have HK3 := Lib.hid hk3
        have HJ3 := Lib.hid hJ3
        clear hk3 hJ3
        gi_wp2
        go_roundw
        case rel =>
          have hsa : wr.heap.size < (wr.alloc (.cells (eiC x).toArray 42)).heap.size := by simp
          refine ⟨k + 1, by omega, by go_num, by rw [HTK.out]; exact HJ3.out, Lib.hid (fun _ b' hb' => ?_), ?_⟩
          · obtain rfl : b = b' := by simpa [InBlk] using hb'
            have e1 : (wr.alloc (.cells (eiC x).toArray 42)).heap[b]? = wr.heap[b]? := Below.heap_alloc _ _ _ hbw
            have e2 : outB Bo (wr.alloc (.cells (eiC x).toArray 42)) = outB Bo wr := outB_alloc Bo wr _ (by omega)
            refine ⟨(HK3.out.same b csb tb fzb (e1.trans (HCB.out.1.trans HHB.out)) (fun hg => ?_) (by rw [e2]; exact HCB.out.2)).trans (e1.trans HCB.out.1), ?_⟩
            · have := HG0.out b hg
              have := HF.out b hb'
              omega
            · rcases HK3.out.out with e | ⟨b2, e, hb2⟩
              · rw [e, e2]; exact HCB.out.2
              · rw [e]; intro e3; injection e3 with e3; omega
          · have := HK3.out.size
            omega
        case measure => simp [intOf]; omega
      · gi_wp2
        refine bodyPost_ret (results_none rfl _ _ _) rfl ?_
        exact ⟨⟨_, rfl⟩, .inr ⟨es.take k ++ [x], ⟨k + 1, by omega, HTK.out.symm⟩, hJx3⟩⟩
    · obtain rfl : k = nn := by omega
      have j1 : ¬ (k : Int) < k := by omega
      have HJS := Lib.hid (show J es wr by have := hJs; rwa [List.take_of_length_le (by rw [HL.out]; exact Nat.le_refl _)] at this)
      clear hcl hJs
      gi_wp2
      go_end0
      exact ⟨⟨_, rfl⟩, .inl ⟨es, rfl, HJS.out⟩⟩
end Go.Proofs.Ytoaemkbdfinaoaa
