/-
  Layer 11: Clone; what a round of a range keeps; the iterator All.
-/
import Derived.Test.YtoaemkbdfinaoaaDirE
import Derived.RangeFuncNested
import Derived.RangeFuncBound
import Derived.RangeFuncCalls
import Derived.RangeFuncLeaves
import Derived.RangeFuncFrom
import Derived.WalkKit
import Derived.OwnWalkIn
import Derived.TacticsInMore
import Derived.LoopNIn
import Derived.LoopIn
namespace Go.Proofs.Ytoaemkbdfinaoaa
open Go.RowKit
set_option linter.unusedVariables false
set_option linter.unusedSimpArgs false
attribute [local go_sem] Oper.semAt_some

theorem OwR.empty (w : World) (base k : Nat) (e : TypeId) (hb : base ≤ w.heap.size) : OwR (w.alloc (.cells #[] e)) base e k (some ⟨w.heap.size, 0, none⟩) 0 0 [] :=
  ⟨by simp, rfl, by simp, .inr ⟨w.heap.size, 0, #[], (0, 0), rfl, hb, heap_alloc_new w _, .inl (Nat.le_refl _), Nat.le_refl _, Nat.zero_le _, by simp, by simp⟩⟩

def ClonePost (es : List EntI) (n : Nat) (w : World) (x : Ending) (w' : World) : Prop :=
  ∃ (A' : Option Addr) (c' : Nat), x = .returned (.slice A' n c') ∧ RdR w' w'.heap.size 3 A' n (es.map eiC) ∧ (∀ b, InBlk A' b → w.heap.size ≤ b) ∧ Below w.heap.size w w'
set_option maxHeartbeats 4000000 in
theorem clone_any (A : Option Addr) (n c : Nat) (es : List EntI) (w : World) (h : OwR w 0 42 3 A n c (es.map eiC)) (hn : n ≤ 1000) :
    Calls Try.prog 35 #[.slice A n c] w (ClonePost es n w) := by
  have hq := fun W => Lib.run_eql_slice_nil (P := Try.prog) W 25 42 A n c 0 0 Try.underlying25
  have hf := h.2.2.2
  have hln : es.length = n := by have := h.len; simpa using this
  rcases hf with ⟨hv, h0⟩ | ⟨g, cap, cur, fz, hv, _⟩
  · injection hv with h1 h2 h3
    subst h1
    subst h3
    subst h2
    obtain rfl : es = [] := List.length_eq_zero_iff.1 hln
    clear h hln h0
    go_enter Try.func35, Try.ntmps35
    go_wp2
    go_ret
    exact ⟨none, 0, rfl, ⟨by simp, rfl, fun h => absurd h (by omega)⟩, fun b e => (by cases e), Below.refl _ _⟩
  · injection hv with h1 h2 h3
    subst h1
    subst h3
    have hb : Below w.heap.size w (w.alloc (.cells #[] 42)) := (Below.refl _ _).alloc (Nat.le_refl _) _
    have Hsrc := Lib.hid ((h.rd.below hb).src (P := Try.prog) (c := c) (by omega) 25 42 Try.underlying25 (fun r hr v hv => by obtain ⟨e, _, rfl⟩ := List.mem_map.1 hr; exact eiC_one e v hv))
    have HE := Lib.hid (OwR.empty w w.heap.size 3 42 (Nat.le_refl _))
    have Hb := Lib.hid hb
    have HL := Lib.hid hln
    clear h hb hln
    go_enter Try.func35, Try.ntmps35
    go_wp2_with (at_builtin; go_must (refine wpList_append_mine entsElem rfl (.tmp 5) (.tmp 6) 25 rfl w.heap.size (.slice (some ⟨w.heap.size, 0, none⟩) 0 0) 0 [] rfl HE.out.2.2 _ rfl n (es.map eiC).flatten Hsrc.out (by omega) (by omega) (by simp) ?_); intro A' c' w' hown hg hfr; rw [Nat.zero_add])
    have HO := Lib.hid (show OwR w' w.heap.size 42 3 A' n c' (es.map eiC) from ⟨eiC_len es, by rw [List.length_map, HL.out], by simpa using hown⟩)
    have HB' := Lib.hid (show Below w.heap.size w w' from Hb.out.trans ⟨hg.os, hg.tape, hg.output, hg.size, fun k hk => hg.block k (by simp; omega) (fun e => by simp [Value.ownBlock] at e; omega)⟩)
    clear hown hg hfr
    go_wp2
    go_ret
    exact ⟨A', c', rfl, HO.out.rd, fun b e => (Own.lt HO.out.2.2 b (by
      cases A' with
      | none => cases e
      | some a => have e' : a.block = b := by simpa [InBlk] using e
                  simp [Value.ownBlock, e'])).1, HB'.out⟩

/-! ### What a round keeps -/
/-- The block of the slice in box Bo. -/
def outB (Bo : Nat) (X : World) : Option Nat := match X.cell? ⟨Bo, 0, none⟩ with | some (.slice (some a) _ _) => some a.block | _ => none
/-- A round may write the boxes G0, and onto the slice in Bo. -/
structure KpB (G0 : Nat → Prop) (Bo : Nat) (X Y : World) : Prop where
  size : X.heap.size ≤ Y.heap.size
  same : ∀ (k : Nat) (cs : Array Value) (t : TypeId) (fz : Nat × Nat), X.heap[k]? = some (.cells cs t fz) → ¬ G0 k → outB Bo X ≠ some k → Y.heap[k]? = X.heap[k]?
  out : outB Bo Y = outB Bo X ∨ ∃ b, outB Bo Y = some b ∧ X.heap.size ≤ b
theorem KpB.trans {G0 : Nat → Prop} {Bo : Nat} {A B C : World} (h : KpB G0 Bo A B) (k : KpB G0 Bo B C) : KpB G0 Bo A C := by
  refine ⟨Nat.le_trans h.size k.size, fun i cs t fz hi hg ho => ?_, ?_⟩
  · have e1 := h.same i cs t fz hi hg ho
    refine (k.same i cs t fz (e1.trans hi) hg ?_).trans e1
    rcases h.out with e | ⟨b, e, hb⟩
    · rw [e]; exact ho
    · rw [e]; intro e2
      have := (Array.getElem?_eq_some_iff.1 hi).1
      injection e2 with e2
      omega
  · rcases k.out with e | ⟨b, e, hb⟩
    · rcases h.out with e1 | ⟨b1, e1, hb1⟩
      · exact .inl (e.trans e1)
      · exact .inr ⟨b1, e.trans e1, hb1⟩
    · exact .inr ⟨b, e, Nat.le_trans h.size hb⟩
theorem outB_putObj (Bo : Nat) (W : World) (l : Nat) (o' : Obj) (hl : l ≠ Bo) : outB Bo (W.putObj l o') = outB Bo W := by
  unfold outB World.cell?
  have e : (W.putObj l o').heap[Bo]? = W.heap[Bo]? := World.putObj_heap_other (fun e => hl e.symm)
  simp only [e]
theorem kpB_put {G0 : Nat → Prop} {Bo : Nat} {w : World} (hBo : Bo < w.heap.size) (W : World) (l : Nat) (o o' : Obj) (hl : w.heap.size ≤ l) (h : W.heap[l]? = some o) (hc : o.isCells = false) (_ : o.isWalk = false) : KpB G0 Bo W (W.putObj l o') := by
  refine ⟨by simp [World.putObj], fun k cs t fz hk _ _ => ?_, .inl (outB_putObj Bo W l o' (by omega))⟩
  refine World.putObj_heap_other (fun e => ?_)
  subst e
  rw [hk] at h
  injection h with h
  subst h
  cases hc
end Go.Proofs.Ytoaemkbdfinaoaa
