/-
  A whole struct loaded from a block that is known whole (the walker's own way through many cells costs the kernel too much).
-/
import Derived.Test.YtoaemkbdfinaoaaBlk
namespace Go.Proofs.Ytoaemkbdfinaoaa
open Go.RowKit

theorem Blk.loadVar {P : Program} {w : World} {g : Nat} {t : TypeId} {cs : List Value} (h : Blk w g t cs) (hs : (P.info? t).map (·.size) = some cs.length) (ha : ∀ w, (isAgg t).run P w = .ok true w) :
    (loadVar t ⟨g, 0, none⟩).run P w = .ok (.agg cs.toArray) w := by
  obtain ⟨i, hi, hsz⟩ := Option.map_eq_some_iff.1 hs
  have hl := run_loadCells_list (P := P) w ⟨g, 0, none⟩ cs (fun k v hk => by
    have h1 := h.cell k v hk
    have h2 : (⟨g, 0, none⟩ : Addr).add k = ⟨g, k, none⟩ := by
      rcases Nat.eq_zero_or_pos k with rfl | hk
      · rfl
      · simp [Addr.add]; omega
    rw [h2]; exact h1)
  simp [Go.loadVar, ha, sizeOf, typeInfo, hi, hsz, hl]
theorem Blk.load {P : Program} {w : World} {g : Nat} {t : TypeId} {cs : List Value} (h : Blk w g t cs) (hs : (P.info? t).map (·.size) = some cs.length) (ha : ∀ w, (isAgg t).run P w = .ok true w) :
    (Instr.loadAt t (.pointer (some ⟨g, 0, none⟩))).run P w = .ok (.agg cs.toArray) w := by
  simp [Instr.loadAt, Instr.sureAddr, h.loadVar hs ha]
theorem wpList_loadBlk {P : Program} {w : World} {ops : Array Oper} {rest : List Oper} {o : Oper} {a : Act} {Q : Exit → Act → World → Prop} (hgd : o.guard = none) (x : Operand) {t : TypeId} (ho : o.op = .load t x)
    {g : Nat} {cs : List Value} (hx : a.eval x = .pointer (some ⟨g, 0, none⟩)) (hs : (P.info? t).map (·.size) = some cs.length) (ha : ∀ w, (isAgg t).run P w = .ok true w) (h : Blk w g t cs)
    (k : wpList P ops Q rest (a.put o.dst (.agg cs.toArray)) w) : wpList P ops Q (o :: rest) a w := by
  refine wpList_plain hgd fun K hK => ?_
  unfold Oper.wp execOp
  simp only [ho, hx, h.load hs ha, Sem.run_bind, Result.andThen_ok, Sem.run_pure]
  exact hK _ _ k
/-- A function's one result, a struct's cell known whole. -/
theorem results_cellBlk {P : Program} {w : World} {fn : Func} {tmps : Array Value} {s g : Nat} {t : TypeId} {cs : List Value} (hr : fn.results = #[.cell s t]) (ht : tmps.getD s undef = .pointer (some ⟨g, 0, none⟩)) (h : Blk w g t cs) (hs : (P.info? t).map (·.size) = some cs.length) (ha : ∀ w, (isAgg t).run P w = .ok true w) :
    (results fn tmps).run P w = .ok (.agg cs.toArray) w := by
  have hv := h.loadVar hs ha
  have hq : (asAddr (tmps.getD s undef)).run P w = .ok ⟨g, 0, none⟩ w := by rw [ht]; rfl
  simp only [results, hr]
  simp [-Array.getD_eq_getD_getElem?, hq, hv]
end Go.Proofs.Ytoaemkbdfinaoaa
