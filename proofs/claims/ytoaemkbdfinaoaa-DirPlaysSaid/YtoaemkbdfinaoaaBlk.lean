/-
  A block that is known whole: a struct behind a pointer.
-/
import Derived.Test.YtoaemkbdfinaoaaBytes
import Derived.Test.YtoaemkbdfinaoaaPlan
namespace Go.Proofs.Ytoaemkbdfinaoaa
open Go.RowKit
set_option linter.unusedVariables false

/-- Block g holds just the cells cs, none of them frozen. -/
def Blk (w : World) (g : Nat) (t : TypeId) (cs : List Value) : Prop := w.heap[g]? = some (.cells cs.toArray t (0, 0))

section
variable {w w' : World} {g : Nat} {t : TypeId} {cs : List Value}
theorem Blk.lt (h : Blk w g t cs) : g < w.heap.size := by
  unfold Blk at h
  rcases Nat.lt_or_ge g w.heap.size with h' | h'
  · exact h'
  · rw [Array.getElem?_eq_none h'] at h; cases h
theorem Blk.cell (h : Blk w g t cs) (i : Nat) (v : Value) (hv : cs[i]? = some v) : w.cell? ⟨g, i, none⟩ = some v := by
  unfold Blk at h
  simp only [World.cell?, h]
  simpa using hv
theorem Blk.free (h : Blk w g t cs) (i : Nat) : w.frozen? ⟨g, i, none⟩ = false := by
  unfold Blk at h
  simp [World.frozen?, h]
theorem Blk.set (h : Blk w g t cs) (i : Nat) (u : Value) : Blk (w.setCell ⟨g, i, none⟩ u) g t (cs.set i u) := by
  unfold Blk at *
  simp [World.setCell, Array.getElem?_modify, h]
theorem Blk.other (h : Blk w g t cs) {p : Addr} (hp : p.block ≠ g) (u : Value) : Blk (w.setCell p u) g t cs := by
  unfold Blk at *
  rw [← h]
  exact Below.heap_setCell w p u g hp.symm
theorem Blk.alloc (h : Blk w g t cs) (o : Obj) : Blk (w.alloc o) g t cs := by
  have := h.lt
  unfold Blk at *
  rw [← h]
  exact Below.heap_alloc w o g this
theorem Blk.drew (h : Blk w g t cs) : Blk w.drew g t cs := h
theorem Blk.drewN (h : Blk w g t cs) (k : Nat) : Blk (w.drewN k) g t cs := h
theorem Blk.keeps {G : Nat → Prop} (h : Blk w g t cs) (k : Keeps G w w') (hg : ¬ G g) : Blk w' g t cs := (k.block g h.lt hg).trans h
theorem Blk.below {B : Nat} (h : Blk w g t cs) (k : Below B w w') (hg : g < B) : Blk w' g t cs := (k.block g hg).trans h
theorem Blk.up (h : Blk w g t cs) (k : Below w.heap.size w w') : Blk w' g t cs := h.below k h.lt
theorem Blk.new (w : World) (t : TypeId) (cs : List Value) : Blk (w.alloc (.cells cs.toArray t)) w.heap.size t cs := heap_alloc_new w _

theorem Keeps.drew {G : Nat → Prop} (h : Keeps G w w') : Keeps G w w'.drew := ⟨h.os, h.tape, h.output, h.size, h.block⟩
theorem Keeps.alloc {G : Nat → Prop} (h : Keeps G w w') (o : Obj) : Keeps G w (w'.alloc o) :=
  ⟨h.os, h.tape, h.output, Nat.le_trans h.size (by simp), fun i hi hn => (Below.heap_alloc w' o i (Nat.lt_of_lt_of_le hi h.size)).trans (h.block i hi hn)⟩
theorem Keeps.setCell {G : Nat → Prop} (h : Keeps G w w') {p : Addr} (hp : G p.block ∨ w.heap.size ≤ p.block) (u : Value) : Keeps G w (w'.setCell p u) :=
  ⟨h.os, h.tape, h.output, by simpa [World.setCell] using h.size, fun i hi hn => (Below.heap_setCell w' p u i (by
    rintro rfl
    rcases hp with hp | hp
    · exact hn hp
    · omega)).trans (h.block i hi hn)⟩
theorem Keeps.mono {G G' : Nat → Prop} (h : Keeps G w w') (hG : ∀ k, k < w.heap.size → G k → G' k) : Keeps G' w w' := ⟨h.os, h.tape, h.output, h.size, fun k hk hn => h.block k hk (fun hg => hn (hG k hk hg))⟩
/-- Nothing below B has turned. -/
theorem Keeps.under {G : Nat → Prop} {B : Nat} (h : Keeps G w w') (hB : B ≤ w.heap.size) (hG : ∀ k, k < B → ¬ G k) : Below B w w' := ⟨h.os, h.tape, h.output, h.size, fun k hk => h.block k (Nat.lt_of_lt_of_le hk hB) (hG k hk)⟩
theorem RdB.keeps {G : Nat → Prop} {B n : Nat} {A : Option Addr} {l : List UInt8} (h : RdB w B A n l) (k : Keeps G w w') (hB : B ≤ w.heap.size) (hG : ∀ k, k < B → ¬ G k) : RdB w' B A n l := h.below (k.under hB hG)
/-- The blocks that are but g. -/
def Is (g : Nat) : Nat → Prop := fun k => k = g
theorem Keeps.is {g : Nat} {B : Nat} (h : Keeps (Is g) w w') (hB : B ≤ g) (hg : g ≤ w.heap.size) : Below B w w' := h.under (Nat.le_trans hB hg) fun k hk e => by
  have e' : k = g := e
  omega
theorem Own.keeps {G : Nat → Prop} {base : Nat} {e : TypeId} {size n : Nat} {v : Value} {xs : List Value} (h : Own w base e size v n xs) (k : Keeps G w w') (hG : ∀ k, base ≤ k → ¬ G k) : Own w' base e size v n xs := by
  have hlt := h.lt
  refine ⟨h.1, ?_⟩
  rcases h.2 with h2 | ⟨g, cap, cur, fz, rfl, hbg, hh, r⟩
  · exact .inl h2
  · exact .inr ⟨g, cap, cur, fz, rfl, hbg, (k.block g (hlt g rfl).2 (hG g hbg)).trans hh, r⟩
theorem OwB.keeps {G : Nat → Prop} {base n c : Nat} {A : Option Addr} {l : List UInt8} (h : OwB w base A n c l) (k : Keeps G w w') (hG : ∀ k, base ≤ k → ¬ G k) : OwB w' base A n c l := Own.keeps h k hG
end

/-- A whole struct stored into a block that is known whole. -/
theorem run_storeBlk {P : Program} {w : World} {g : Nat} {t : TypeId} {cs cs' : List Value} (hs : (P.info? t).map (·.size) = some cs'.length) (h : Blk w g t cs) (hl : cs'.length = cs.length) (h1 : ∀ v ∈ cs', v.oneCell' = true) :
    (Instr.storeAt t (.pointer (some ⟨g, 0, none⟩)) (.agg cs'.toArray)).run P w = .ok () (w.setRow g cs'.toArray) := by
  obtain ⟨i, hi, hsz⟩ := Option.map_eq_some_iff.1 hs
  have hst := run_storeCells_atM P g 0 t (0, 0) cs' 0 cs.toArray w h (.inl (Nat.le_refl _)) (by simp [hl]) h1
  simp only [Nat.add_zero, Nat.zero_add, List.take_zero, List.nil_append, hl] at hst
  rw [List.drop_of_length_le (by simp), List.append_nil] at hst
  simp [Instr.storeAt, Instr.sureAddr, storeVar, sizeOf, typeInfo, hi, hsz, Value.cells, hst]
theorem Blk.setRow {w : World} {g : Nat} {t : TypeId} {cs : List Value} (h : Blk w g t cs) (cs' : List Value) : Blk (w.setRow g cs'.toArray) g t cs' := setRow_heap w g cs.toArray _ t _ h
theorem wpList_storeBlk {P : Program} {w : World} {ops : Array Oper} {rest : List Oper} {o : Oper} {a : Act} {Q : Exit → Act → World → Prop} (hgd : o.guard = none) (x y : Operand) {t : TypeId} (ho : o.op = .store t x y) (hd : o.dst = none)
    {g : Nat} {cs : List Value} (cs' : List Value) (hx : a.eval x = .pointer (some ⟨g, 0, none⟩)) (hy : a.eval y = .agg cs'.toArray) (hs : (P.info? t).map (·.size) = some cs'.length) (h : Blk w g t cs) (hl : cs'.length = cs.length) (h1 : ∀ v ∈ cs', v.oneCell' = true)
    (k : wpList P ops Q rest a (w.setRow g cs'.toArray)) : wpList P ops Q (o :: rest) a w := by
  refine wpList_plain hgd fun K hK => ?_
  unfold Oper.wp execOp
  simp only [ho, hx, hy, run_storeBlk hs h hl h1, Sem.run_bind, Result.andThen_ok, Sem.run_pure]
  refine hK _ _ ?_
  rw [hd]
  exact k
theorem below_setRow {B : Nat} {w w' : World} (h : Below B w w') {g : Nat} (hg : B ≤ g) (cs : Array Value) : Below B w (w'.setRow g cs) :=
  ⟨h.os, h.tape, h.output, by simpa using h.size, fun k hk => (setRow_other w' g k _ (by omega)).trans (h.block k hk)⟩
theorem cell_abv {G : Nat → Prop} {w : World} {b o : Nat} {v : Value} (h : w.cell? ⟨b, o, none⟩ = some v) (hG : ¬ G b) : ∀ p : Abv G w, p.val.cell? ⟨b, o, none⟩ = some v :=
  fun p => (World.cell?_of_block (p.keeps.block b (World.block_lt_of_cell? w _ h) hG)).trans h
theorem Keeps.cell {G : Nat → Prop} {w w' : World} (k : Keeps G w w') {b o : Nat} {v : Value} (h : w.cell? ⟨b, o, none⟩ = some v) (hG : ¬ G b) : w'.cell? ⟨b, o, none⟩ = some v :=
  (World.cell?_of_block (k.block b (World.block_lt_of_cell? w _ h) hG)).trans h

theorem keeps_setRow (w : World) {g : Nat} (cs : Array Value) : Keeps (Is g) w (w.setRow g cs) :=
  ⟨rfl, rfl, rfl, by simp, fun k _ hn => setRow_other w g k _ (fun e => hn e)⟩
end Go.Proofs.Ytoaemkbdfinaoaa
