/-
  Slices whose elements have several cells (structs): reading, owning, appending one.
-/
import Derived.Test.YtoaemkbdfinaoaaVals
import Derived.Test.YtoaemkbdfinaoaaBlk
namespace Go.Proofs.Ytoaemkbdfinaoaa
open Go.RowKit
set_option linter.unusedVariables false

theorem flatK_length {k : Nat} {rows : List (List Value)} (h : ∀ r ∈ rows, r.length = k) : rows.flatten.length = rows.length * k := by
  induction rows with
  | nil => simp
  | cons r rs ih =>
    simp only [List.flatten_cons, List.length_append, List.length_cons]
    rw [ih (fun x hx => h x (List.mem_cons_of_mem _ hx)), h r List.mem_cons_self, Nat.add_mul]
    omega
theorem flatK_at {k : Nat} {rows : List (List Value)} (h : ∀ r ∈ rows, r.length = k) : ∀ (i j : Nat) (r : List Value) (v : Value), rows[i]? = some r → r[j]? = some v → rows.flatten[i * k + j]? = some v := by
  induction rows with
  | nil => intro i j r v hr; simp at hr
  | cons r0 rs ih =>
    intro i j r v hr hv
    have h0 := h r0 List.mem_cons_self
    cases i with
    | zero =>
      simp at hr
      subst hr
      have hj : j < r0.length := (List.getElem?_eq_some_iff.1 hv).1
      simp only [List.flatten_cons, Nat.zero_mul, Nat.zero_add]
      rw [List.getElem?_append_left hj]
      exact hv
    | succ i =>
      simp only [List.getElem?_cons_succ] at hr
      simp only [List.flatten_cons]
      rw [List.getElem?_append_right (by rw [Nat.add_mul]; omega)]
      have := ih (fun x hx => h x (List.mem_cons_of_mem _ hx)) i j r v hr hv
      rw [← this]
      congr 1
      rw [Nat.add_mul]
      omega

/-- '.slice A n c', of elements of k cells, reads as the rows rs, below block B. -/
def RdR (w : World) (B k : Nat) (A : Option Addr) (n : Nat) (rs : List (List Value)) : Prop := (∀ r ∈ rs, r.length = k) ∧ rs.length = n ∧ (0 < n → ∃ b off, A = some ⟨b, off, none⟩ ∧ b < B ∧ ∀ (i j : Nat) (r : List Value) (v : Value), rs[i]? = some r → r[j]? = some v → w.cell? ⟨b, off + i * k + j, none⟩ = some v)
/-- '.slice A n c', of elements of type e and of k cells, owns the rows rs, from block base on. -/
def OwR (w : World) (base : Nat) (e : TypeId) (k : Nat) (A : Option Addr) (n c : Nat) (rs : List (List Value)) : Prop := (∀ r ∈ rs, r.length = k) ∧ rs.length = n ∧ Own w base e k (.slice A n c) n rs.flatten

section
variable {w w' : World} {B base k n c : Nat} {e : TypeId} {A : Option Addr} {rs : List (List Value)}
theorem RdR.len (h : RdR w B k A n rs) : rs.length = n := h.2.1
theorem OwR.len (h : OwR w base e k A n c rs) : rs.length = n := h.2.1
theorem RdR.below (h : RdR w B k A n rs) (hb : Below B w w') : RdR w' B k A n rs := by
  refine ⟨h.1, h.2.1, fun hn => ?_⟩
  obtain ⟨b, off, hA, hlt, hc⟩ := h.2.2 hn
  exact ⟨b, off, hA, hlt, fun i j r v hr hv => (hb.cell (p := ⟨b, off + i * k + j, none⟩) hlt).trans (hc i j r v hr hv)⟩
theorem RdR.more {B' : Nat} (h : RdR w B k A n rs) (hB : B ≤ B') : RdR w B' k A n rs := by
  refine ⟨h.1, h.2.1, fun hn => ?_⟩
  obtain ⟨b, off, hA, hlt, hc⟩ := h.2.2 hn
  exact ⟨b, off, hA, by omega, hc⟩
theorem RdR.up (h : RdR w w.heap.size k A n rs) (hb : Below w.heap.size w w') : RdR w' w'.heap.size k A n rs := (h.below hb).more hb.size
theorem RdR.nil : RdR w B k A 0 [] := ⟨by simp, rfl, fun h => by omega⟩
theorem RdR.at_ (h : RdR w B k A n rs) {i : Nat} (hi : i < n) : ∃ b off r, A = some ⟨b, off, none⟩ ∧ b < B ∧ rs[i]? = some r ∧ r.length = k ∧ ∀ (j : Nat) (v : Value), r[j]? = some v → w.cell? ⟨b, off + i * k + j, none⟩ = some v := by
  obtain ⟨b, off, hA, hlt, hc⟩ := h.2.2 (by omega)
  have hl : i < rs.length := by rw [h.2.1]; exact hi
  exact ⟨b, off, rs[i], hA, hlt, List.getElem?_eq_getElem hl, h.1 _ (List.getElem_mem hl), fun j v hv => hc i j _ v (List.getElem?_eq_getElem hl) hv⟩
theorem OwR.nil (w : World) (base : Nat) (e : TypeId) (k : Nat) : OwR w base e k none 0 0 [] := ⟨by simp, rfl, Own.nil w base e k⟩
theorem OwR.up (h : OwR w base e k A n c rs) (hb : Below w.heap.size w w') : OwR w' base e k A n c rs := ⟨h.1, h.2.1, Own.up h.2.2 hb⟩
theorem OwR.alloc (h : OwR w base e k A n c rs) (o : Obj) : OwR (w.alloc o) base e k A n c rs := ⟨h.1, h.2.1, Own.alloc h.2.2 o⟩
theorem OwR.drew (h : OwR w base e k A n c rs) : OwR w.drew base e k A n c rs := h
theorem OwR.lower {base' : Nat} (h : OwR w base e k A n c rs) (hb : base' ≤ base) : OwR w base' e k A n c rs := ⟨h.1, h.2.1, Own.lower h.2.2 hb⟩
theorem OwR.keeps {G : Nat → Prop} (h : OwR w base e k A n c rs) (hk : Keeps G w w') (hG : ∀ k, base ≤ k → ¬ G k) : OwR w' base e k A n c rs := ⟨h.1, h.2.1, Own.keeps h.2.2 hk hG⟩
theorem OwR.cap (h : OwR w base e k A n c rs) : n ≤ c ∧ c ≤ maxLen := by
  obtain ⟨a, c', hv, h1, h2⟩ := Own.form h.2.2
  injection hv with _ _ h3
  subst h3
  exact ⟨h1, h2⟩
theorem OwR.blk (h : OwR w base e k A n c rs) (hn : 0 < n) : ∃ g, A = some ⟨g, 0, none⟩ ∧ base ≤ g ∧ g < w.heap.size := by
  rcases h.2.2.2 with ⟨hv, h0⟩ | ⟨g, cap, cur, fz, hv, hbg, _⟩
  · omega
  · injection hv with h1
    subst h1
    exact ⟨g, rfl, hbg, (Own.lt h.2.2 g rfl).2⟩
theorem OwR.rd (h : OwR w base e k A n c rs) : RdR w w.heap.size k A n rs := by
  refine ⟨h.1, h.2.1, fun hn => ?_⟩
  obtain ⟨g, hA, _, hlt⟩ := h.blk hn
  subst hA
  refine ⟨g, 0, rfl, hlt, fun i j r v hr hv => ?_⟩
  have h1 := Own.cells h.2.2 (g := g) rfl _ v (flatK_at h.1 i j r v hr hv)
  rw [add_plain] at h1
  rw [Nat.add_assoc]
  exact h1
/-- A row of one element that was just laid. -/
theorem Src.oneR {P : Program} (w : World) (u e : TypeId) (hu : P.underlying u = some (.slice e)) (r : List Value) (hr : r.length = k) (h1 : ∀ v ∈ r, v.oneCell' = true) (C : Array Value) (hC : C.toList = r) (t : TypeId) :
    Src P (w.alloc (.cells C t)) u k (.slice (some ⟨w.heap.size, 0, none⟩) 1 1) 1 r := by
  refine Src.ofReads (B := w.heap.size + 1) (c := 1) u e hu ⟨by omega, fun _ => ⟨_, rfl, by simp, fun j v hv => ?_⟩⟩ h1
  rw [add_plain, Nat.zero_add]
  rw [← hC] at hv
  have : (w.alloc (.cells C t)).heap[w.heap.size]? = some (.cells C t) := heap_alloc_new w _
  simp only [World.cell?, this]
  simpa using hv
end

/-- append of one struct onto a row of the call's own. -/
theorem wpList_appendR {P : Program} {w : World} {ops : Array Oper} {rest : List Oper} {o : Oper} {a : Act} {Q : Exit → Act → World → Prop} {t e : TypeId} {z : Value} {k bytes : Nat} (el : Elem P t e z k bytes)
    (hgd : o.guard = none) (s x : Operand) (u : TypeId) (ho : o.op = .call { callee := .builtin .append, args := #[s, x], argTypes := #[t, u] })
    (base : Nat) (A0 : Option Addr) (n0 c0 : Nat) (rs : List (List Value)) (hs : a.eval s = .slice A0 n0 c0) (hown : OwR w base e k A0 n0 c0 rs)
    (xv : Value) (hx : a.eval x = xv) (r : List Value) (hr : r.length = k) (hsrc : Src P w u k xv 1 r)
    (h63 : n0 + 1 ≤ 1073741824) (hby : bytes ≤ 65536) (hbase : base ≤ w.heap.size)
    (h : ∀ (A : Option Addr) (n c : Nat) (rs' : List (List Value)) (w' : World), Hid (rs' = rs ++ [r]) → Hid (n = n0 + 1) → OwR w' base e k A n c rs' → Below base w w' → w.grownBy w' (A0.map (·.block)) →
      wpList P ops Q rest (a.put o.dst (.slice A n c)) w') : wpList P ops Q (o :: rest) a w := by
  refine wpList_append_mine el hgd s x u ho base (.slice A0 n0 c0) n0 rs.flatten hs hown.2.2 xv hx 1 r hsrc h63 hby hbase ?_
  intro A c w' ho' hg _
  have hrr : (Value.slice A0 n0 c0).ownBlock = A0.map (·.block) := by cases A0 <;> rfl
  rw [hrr] at hg
  refine h A (n0 + 1) c (rs ++ [r]) w' rfl rfl ⟨?_, by simp [hown.2.1], by simpa using ho'⟩ ⟨hg.os, hg.tape, hg.output, hg.size, fun k hk => hg.block k (by omega) (fun e => ?_)⟩ hg
  · intro q hq
    rcases List.mem_append.1 hq with hq | hq
    · exact hown.1 q hq
    · obtain rfl : q = r := by simpa using hq
      exact hr
  · have := (Own.lt hown.2.2 k (by rw [hrr]; exact e.symm)).1
    omega
end Go.Proofs.Ytoaemkbdfinaoaa
