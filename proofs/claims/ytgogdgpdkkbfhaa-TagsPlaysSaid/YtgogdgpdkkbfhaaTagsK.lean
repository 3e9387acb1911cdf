/-
  Layer 22: the pipe of requests and the reference's list, side by side; things done, handed in.
-/
import Derived.Test.YtgogdgpdkkbfhaaTagsJ
import Derived.Deep.Slices
namespace Go.Proofs.Ytgogdgpdkkbfhaa
open Go.RowKit Go.ChangeShapes Go.WideShapes Go.ChangeAt Go.Deep
set_option linter.unusedVariables false
set_option linter.unusedSimpArgs false

theorem Rws.tags {w : World} {lo m : Nat} {rs : List (List Value)} {xs : List AskV} (h : Rws w lo rs xs) (hl : xs.length = m) : TagsAre rs m (xs.map AskV.tag) := by
  refine ⟨by simp [hl], fun i t ht => ?_⟩
  rw [List.getElem?_map] at ht
  obtain ⟨x, hx, rfl⟩ := Option.map_eq_some_iff.1 ht
  obtain ⟨r, hr, h1⟩ := h i x hx
  exact ⟨r, hr, h1.tag⟩
theorem Rws.eraseBoth {w : World} {lo k : Nat} {rs : List (List Value)} {xs : List AskV} (h : Rws w lo rs xs) : Rws w lo (rs.eraseIdx k) (xs.eraseIdx k) := fun j y hy => by
  rw [List.getElem?_eraseIdx] at hy
  rw [List.getElem?_eraseIdx]
  split at hy
  · rename_i h1; rw [if_pos h1]; exact h j y hy
  · rename_i h1; rw [if_neg h1]; exact h (j + 1) y hy

/-- The requests that wait, and the reference's list. -/
structure PlS (w : World) (g k m c : Nat) (A : Option Addr) (rows os : List (List Value)) (xs : List AskV) : Prop where
  tg : TG w g rows m k
  one : AllOne rows
  r1 : Rws w (g + 1) rows xs
  own : OwR w (g + 1) 32 14 A m c os
  oneO : ∀ r ∈ os, ∀ v ∈ r, v.oneCell' = true
  r2 : Rws w (g + 1) os xs
  xb : ∀ x ∈ xs, x.names.length ≤ 8 ∧ x.data.length ≤ 30
  len : xs.length = m
section
variable {w w' : World} {g k m c : Nat} {A : Option Addr} {rows os : List (List Value)} {xs : List AskV}
theorem PlS.up (h : PlS w g k m c A rows os xs) (hb : Below w.heap.size w w') : PlS w' g k m c A rows os xs :=
  { h with tg := h.tg.up hb, r1 := h.r1.up hb, own := h.own.up hb, r2 := h.r2.up hb }
theorem PlS.drew (h : PlS w g k m c A rows os xs) : PlS w.drew g k m c A rows os xs := h.up (Below.refl _ _).drew
theorem PlS.tr (h : PlS w g k m c A rows os xs) : TagsAre rows m (xs.map AskV.tag) := h.r1.tags h.len
theorem PlS.to (h : PlS w g k m c A rows os xs) : TagsAre os m (xs.map AskV.tag) := h.r2.tags h.len
theorem PlS.m8 (h : PlS w g k m c A rows os xs) : m ≤ 8 := Nat.le_trans h.tg.2.2.1 h.tg.2.2.2.1
/-- Behind Pick or Flush of both. -/
theorem PlS.taken {q i c' : Nat} {A' : Option Addr} {rows' rs' : List (List Value)} (h : PlS w g k m c A rows os xs) (hq : m = q + 1) (hi : i ≤ q) (hK : Keeps (Is g) w w') (hT : TG w' g rows' q k) (hE : rows'.take q = (rows.take (q + 1)).eraseIdx i) (hM : ∀ r ∈ rows', r ∈ rows ∨ r = askZ)
    (hO : OwR w' (g + 1) 32 14 A' q c' rs') (hrs : rs' = os.eraseIdx i) : PlS w' g k q c' A' rows' rs' (xs.eraseIdx i) := by
  have hng : ∀ b (cur : Array Value) (fz : Nat × Nat) (t : TypeId), g + 1 ≤ b → w.heap[b]? = some (.cells cur t fz) → (t = 9 ∨ t = 5) → ¬ Is g b := fun b _ _ _ hb _ _ e => by have e' : b = g := e; omega
  refine ⟨hT, h.one.taken hM, (h.r1.keepT hK hng).erase (by rw [h.len, hq]) hi hE, hO, ?_, ?_, fun x hx => h.xb x (List.mem_of_mem_eraseIdx hx), ?_⟩
  · intro r hr
    rw [hrs] at hr
    exact h.oneO r (List.mem_of_mem_eraseIdx hr)
  · rw [hrs]; exact (h.r2.keepT hK hng).eraseBoth
  · rw [List.length_eraseIdx, h.len, hq]
    split <;> omega
/-- Behind Put of both. -/
theorem PlS.put {c' : Nat} {A' : Option Addr} {r r' : List Value} {rs' : List (List Value)} {x : AskV} (h : PlS w g k m c A rows os xs) (hK : Keeps (Is g) w w') (hT : TG w' g (rows.set m r') (m + 1) k) (hr' : AskRow w' (g + 1) r' x)
    (hO : OwR w' (g + 1) 32 14 A' (m + 1) c' rs') (hrs : rs' = os ++ [r]) (hr : AskRow w' (g + 1) r x) (hx : x.names.length ≤ 8 ∧ x.data.length ≤ 30) : PlS w' g k (m + 1) c' A' (rows.set m r') rs' (xs ++ [x]) := by
  have hng : ∀ b (cur : Array Value) (fz : Nat × Nat) (t : TypeId), g + 1 ≤ b → w.heap[b]? = some (.cells cur t fz) → (t = 9 ∨ t = 5) → ¬ Is g b := fun b _ _ _ hb _ _ e => by have e' : b = g := e; omega
  have hl := h.len
  have hrl := h.tg.1
  have hm8 : m + 1 ≤ 8 := Nat.le_trans hT.2.2.1 hT.2.2.2.1
  refine ⟨hT, h.one.set _ _ hr'.one, ?_, hO, ?_, ?_, ?_, by simp [hl]⟩
  · have h1 := (h.r1.keepT hK hng).set (by omega) hr'
    rw [hl] at h1
    exact h1
  · intro q hq
    rw [hrs] at hq
    rcases List.mem_append.1 hq with hq | hq
    · exact h.oneO q hq
    · obtain rfl : q = r := by simpa using hq
      exact hr.one
  · rw [hrs]; exact (h.r2.keepT hK hng).snoc (by rw [h.own.len, hl]) hr
  · intro y hy
    rcases List.mem_append.1 hy with hy | hy
    · exact h.xb y hy
    · obtain rfl : y = x := by simpa using hy
      exact hx
end

/-- '.slice A n c' holds things done. -/
def OArg (w : World) (B : Nat) (A : Option Addr) (n : Nat) : Prop :=
  ∀ i, i < n → ∃ (b off : Nat) (d num : Int) (x : AskV) (An : Option Addr) (nn cn : Nat) (Ad : Option Addr) (nd cd : Nat), A = some ⟨b, off, none⟩ ∧ b < B ∧ (∀ (j : Nat) (v : Value), (.int .i64 d :: .int .i64 num :: askC x An nn cn Ad nd cd)[j]? = some v → w.cell? ⟨b, off + i * 16 + j, none⟩ = some v) ∧ AskOk w B x An nn cn Ad nd cd ∧ (-9223372036854775808 ≤ d ∧ d ≤ 9223372036854775807) ∧ (-9223372036854775808 ≤ num ∧ num ≤ 9223372036854775807)
theorem OArg.up {w w' : World} {B n : Nat} {A : Option Addr} (h : OArg w B A n) (k : Below B w w') : OArg w' B A n := fun i hi => by
  obtain ⟨b, off, d, num, x, An, nn, cn, Ad, nd, cd, hA, hb, hc, hok, h1, h2⟩ := h i hi
  exact ⟨b, off, d, num, x, An, nn, cn, Ad, nd, cd, hA, hb, fun j v hv => (k.cell (p := ⟨b, off + i * 16 + j, none⟩) hb).trans (hc j v hv), hok.up k, h1, h2⟩

section
variable {H : Type} {enc : TypeId × Value → H} {w : World} {held : Bool}
theorem o_cells {cs : List Value} {fuel : Nat} {x : DataW H × List MemPlace} (hl : cs.length = 16)
    (hf : DataW.trod enc Try.prog w 0 (fun _ => true) held fuel 47 cs = some x) :
    ∃ (d num : Int) (a : AskV) (An : Option Addr) (nn cn : Nat) (Ad : Option Addr) (nd cd : Nat), cs = .int .i64 d :: .int .i64 num :: askC a An nn cn Ad nd cd ∧ AskOk w w.heap.size a An nn cn Ad nd cd ∧ (-9223372036854775808 ≤ d ∧ d ≤ 9223372036854775807) ∧ (-9223372036854775808 ≤ num ∧ num ≤ 9223372036854775807) := by
  match cs, hl with
  | [c0, c1, e0, e1, e2, e3, e4, e5, e6, e7, e8, e9, e10, e11, e12, e13], _ =>
    obtain ⟨xs, n, _, hx, _, hlen, hg⟩ := DataW.trod_struct Try.underlying47 hf
    have k1 : Try.prog.cellsOf 3 = 1 := by kernel_rfl
    have k2 : Try.prog.cellsOf 32 = 14 := by kernel_rfl
    match xs, hlen with
    | [y0, y1, y2], _ =>
      have h0 := hg 0 _ rfl
      have h1 := hg 1 _ rfl
      have h2 := hg 2 _ rfl
      simp [k1, k2] at h0 h1 h2
      obtain ⟨i0, q0, _, w0⟩ := DataW.trod_int Try.underlying3 h0
      obtain ⟨i1, q1, _, w1⟩ := DataW.trod_int Try.underlying3 h1
      obtain ⟨a, An, nn, cn, Ad, nd, cd, he, hok⟩ := ask_cells rfl h2
      simp at q0 q1
      subst q0 q1
      exact ⟨i0, i1, a, An, nn, cn, Ad, nd, cd, by rw [he], hok, i64_of_wf w0, i64_of_wf w1⟩

theorem os_in {a : Option Addr} {n c : Nat} {d : DataW H} {p : List MemPlace} (h : DataW.Trod enc Try.prog w 0 (fun _ => true) held 45 (.slice a n c) d p) :
    OArg w w.heap.size a n ∧ n ≤ 9223372036854775807 := by
  have ce : Try.prog.cellsOf 47 = 16 := by kernel_rfl
  obtain ⟨fuel, hf⟩ := h
  rcases open_slice Try.underlying45 hf with ⟨hcs, _⟩ | ⟨x, len, cap, m, k, D, Pl, hcs, _, hl, hm, hmm, _, hr⟩
  · simp [Value.cells] at hcs
    obtain ⟨rfl, rfl, rfl⟩ := hcs
    exact ⟨fun i hi => by omega, by omega⟩
  · simp [Value.cells] at hcs
    obtain ⟨rfl, rfl, rfl⟩ := hcs
    simp at hmm
    unfold maxLen at hm
    have each : ∀ i, i < n → ∃ (d num : Int) (y : AskV) (An : Option Addr) (nn cn : Nat) (Ad : Option Addr) (nd cd : Nat), (AskOk w w.heap.size y An nn cn Ad nd cd ∧ (-9223372036854775808 ≤ d ∧ d ≤ 9223372036854775807) ∧ (-9223372036854775808 ≤ num ∧ num ≤ 9223372036854775807)) ∧ ∀ (j : Nat) (v : Value), (.int .i64 d :: .int .i64 num :: askC y An nn cn Ad nd cd)[j]? = some v → w.cell? ((x.add (i * 16)).add j) = some v := fun i hi => by
      obtain ⟨cs', hc, htr⟩ := hr i (by omega)
      rw [ce] at hc
      obtain ⟨_, hcl, hat⟩ := World.cells?_some hc
      obtain ⟨d, num, y, An, nn, cn, Ad, nd, cd, he, hok, h1, h2⟩ := o_cells hcl htr
      refine ⟨d, num, y, An, nn, cn, Ad, nd, cd, ⟨hok, h1, h2⟩, fun j v hv => ?_⟩
      have hj : j < 16 := by have := (List.getElem?_eq_some_iff.1 hv).1; simpa [askC] using this
      have h3 := hat j hj
      rw [he, hv] at h3
      exact h3
    refine ⟨fun i hi => ?_, by omega⟩
    obtain ⟨b, off, rfl⟩ : ∃ b off, x = ⟨b, off, none⟩ := by
      obtain ⟨_, _, _, _, _, _, _, _, _, _, h0⟩ := each 0 (by omega)
      have e0 := h0 0 _ rfl
      rw [add_of_add] at e0
      exact cell_plain e0
    obtain ⟨d, num, y, An, nn, cn, Ad, nd, cd, hok, hcell⟩ := each i hi
    have e0 := hcell 0 _ rfl
    rw [add_of_add] at e0
    have hb := World.block_lt_of_cell? w _ e0
    rw [block_of_add] at hb
    refine ⟨b, off, d, num, y, An, nn, cn, Ad, nd, cd, rfl, hb, fun j v hv => ?_, hok.1, hok.2.1, hok.2.2⟩
    have h1 := hcell j v hv
    rw [add_of_add, add_plain] at h1
    rw [Nat.add_assoc]
    exact h1
end
end Go.Proofs.Ytgogdgpdkkbfhaa
