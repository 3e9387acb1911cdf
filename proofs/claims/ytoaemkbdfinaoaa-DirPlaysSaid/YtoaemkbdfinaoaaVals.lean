/-
  Slices of whatever elements of one cell (strings, slices, numbers): the walk's laws, each list under a name of its own.
-/
import Derived.Test.YtoaemkbdfinaoaaBytes
namespace Go.Proofs.Ytoaemkbdfinaoaa
open Go.RowKit
set_option linter.unusedVariables false

/-- '.slice A n c' reads as the cells xs, below block B. -/
def RdV (w : World) (B : Nat) (A : Option Addr) (n : Nat) (xs : List Value) : Prop := Reads w B 1 A n xs
/-- '.slice A n c', of elements of type e, owns the cells xs, from block base on. -/
def OwV (w : World) (base : Nat) (e : TypeId) (A : Option Addr) (n c : Nat) (xs : List Value) : Prop := Own w base e 1 (.slice A n c) n xs

section
variable {w w' : World} {B base n c : Nat} {e : TypeId} {A : Option Addr} {xs : List Value}
theorem RdV.len (h : RdV w B A n xs) : xs.length = n := by have := h.1; omega
theorem OwV.rd (h : OwV w base e A n c xs) : RdV w w.heap.size A n xs := Own.reads h
theorem OwV.len (h : OwV w base e A n c xs) : xs.length = n := h.rd.len
theorem OwV.cap (h : OwV w base e A n c xs) : n ≤ c ∧ c ≤ maxLen := by
  obtain ⟨a, c', hv, h1, h2⟩ := Own.form h
  injection hv with _ _ h3
  subst h3
  exact ⟨h1, h2⟩
theorem OwV.up (h : OwV w base e A n c xs) (hb : Below w.heap.size w w') : OwV w' base e A n c xs := Own.up h hb
theorem OwV.lower {base' : Nat} (h : OwV w base e A n c xs) (hb : base' ≤ base) : OwV w base' e A n c xs := Own.lower h hb
theorem OwV.nil (w : World) (base : Nat) (e : TypeId) : OwV w base e none 0 0 [] := Own.nil w base e 1
theorem OwV.alloc (h : OwV w base e A n c xs) (o : Obj) : OwV (w.alloc o) base e A n c xs := Own.alloc h o
theorem OwV.drew (h : OwV w base e A n c xs) : OwV w.drew base e A n c xs := h
theorem OwV.drewN (h : OwV w base e A n c xs) (k : Nat) : OwV (w.drewN k) base e A n c xs := h
theorem RdV.alloc (h : RdV w B A n xs) (hB : B ≤ w.heap.size) (o : Obj) : RdV (w.alloc o) B A n xs := Reads.alloc h hB o
theorem RdV.drew (h : RdV w B A n xs) : RdV w.drew B A n xs := h
theorem RdV.below (h : RdV w B A n xs) (hb : Below B w w') : RdV w' B A n xs := Reads.below h hb
theorem RdV.more {B' : Nat} (h : RdV w B A n xs) (hB : B ≤ B') : RdV w B' A n xs := Reads.more h hB
theorem RdV.up (h : RdV w w.heap.size A n xs) (hb : Below w.heap.size w w') : RdV w' w'.heap.size A n xs := (h.below hb).more hb.size
theorem RdV.nil : RdV w B A 0 [] := ⟨by simp, fun h => by simp at h⟩
theorem RdV.at_ {k : Nat} (h : RdV w B A n xs) (hk : k < n) : ∃ b off u, A = some ⟨b, off, none⟩ ∧ b < B ∧ xs[k]? = some u ∧ w.cell? ⟨b, off + k, none⟩ = some u := Reads.at_ h hk
theorem RdV.src {P : Program} (h : RdV w B A n xs) (u e : TypeId) (hu : P.underlying u = some (.slice e)) (h1 : ∀ v ∈ xs, v.oneCell' = true) : Src P w u 1 (.slice A n c) n xs := Src.ofReads u e hu h h1
theorem OwV.blk (h : OwV w base e A n c xs) (hn : 0 < n) : ∃ g, A = some ⟨g, 0, none⟩ ∧ base ≤ g ∧ g < w.heap.size := by
  rcases h.2 with ⟨hv, h0⟩ | ⟨g, cap, cur, fz, hv, hbg, _⟩
  · omega
  · injection hv with h1
    subst h1
    exact ⟨g, rfl, hbg, (Own.lt h g rfl).2⟩
/-- A row of values that was just laid. -/
theorem RdV.new (w : World) (xs : List Value) (C : Array Value) (hC : C.toList = xs) (t : TypeId) (fz : Nat × Nat) : RdV (w.alloc (.cells C t fz)) (w.heap.size + 1) (some ⟨w.heap.size, 0, none⟩) xs.length xs := by
  refine ⟨by rw [Nat.mul_one], fun _ => ⟨_, rfl, by simp, fun j u hu => ?_⟩⟩
  rw [add_plain, Nat.zero_add]
  rw [← hC] at hu
  have : (w.alloc (.cells C t fz)).heap[w.heap.size]? = some (.cells C t fz) := heap_alloc_new w _
  simp only [World.cell?, this]
  simpa using hu
theorem Src.oneV {P : Program} (w : World) (u e : TypeId) (hu : P.underlying u = some (.slice e)) (x : Value) (hx : x.oneCell' = true) (t : TypeId) :
    Src P (w.alloc (.cells #[x] t)) u 1 (.slice (some ⟨w.heap.size, 0, none⟩) 1 1) 1 [x] :=
  (RdV.new w [x] #[x] rfl t (0, 0)).src (c := 1) u e hu (by simpa using hx)
end

/-- append of values onto a row of the call's own. -/
theorem wpList_appendV {P : Program} {w : World} {ops : Array Oper} {rest : List Oper} {o : Oper} {a : Act} {Q : Exit → Act → World → Prop} {t e : TypeId} {z : Value} {bytes : Nat} (el : Elem P t e z 1 bytes)
    (hgd : o.guard = none) (s x : Operand) (u : TypeId) (ho : o.op = .call { callee := .builtin .append, args := #[s, x], argTypes := #[t, u] })
    (base : Nat) (A0 : Option Addr) (n0 c0 : Nat) (l1 : List Value) (hs : a.eval s = .slice A0 n0 c0) (hown : OwV w base e A0 n0 c0 l1)
    (xv : Value) (hx : a.eval x = xv) (m : Nat) (l2 : List Value) (hsrc : Src P w u 1 xv m l2)
    (h63 : n0 + m ≤ 1073741824) (hby : bytes ≤ 65536) (hbase : base ≤ w.heap.size)
    (h : ∀ (A : Option Addr) (n c : Nat) (l' : List Value) (w' : World), Hid (l' = l1 ++ l2) → Hid (n = n0 + m) → OwV w' base e A n c l' → Below base w w' → w.grownBy w' (A0.map (·.block)) →
      wpList P ops Q rest (a.put o.dst (.slice A n c)) w') : wpList P ops Q (o :: rest) a w := by
  refine wpList_append_mine el hgd s x u ho base (.slice A0 n0 c0) n0 l1 hs hown xv hx m l2 hsrc h63 hby hbase ?_
  intro A c w' ho' hg _
  have hr : (Value.slice A0 n0 c0).ownBlock = A0.map (·.block) := by cases A0 <;> rfl
  rw [hr] at hg
  refine h A (n0 + m) c (l1 ++ l2) w' rfl rfl ho' ⟨hg.os, hg.tape, hg.output, hg.size, fun k hk => hg.block k (by omega) (fun e => ?_)⟩ hg
  have := (Own.lt hown k (by rw [hr]; exact e.symm)).1
  omega

/-- Strings as cells. -/
def sv (ls : List (List UInt8)) : List Value := ls.map fun l => .string (st l)
theorem sv_length (ls : List (List UInt8)) : (sv ls).length = ls.length := by simp [sv]
theorem sv_append (a b : List (List UInt8)) : sv (a ++ b) = sv a ++ sv b := by simp [sv]
theorem sv_one (ls : List (List UInt8)) : ∀ v ∈ sv ls, v.oneCell' = true := by
  intro v hv
  simp only [sv, List.mem_map] at hv
  obtain ⟨c, _, rfl⟩ := hv
  rfl
theorem sv_at (ls : List (List UInt8)) (k : Nat) : (sv ls)[k]? = (ls[k]?).map fun l => .string (st l) := by simp [sv]
theorem sv_set (ls : List (List UInt8)) (k : Nat) (c : List UInt8) : sv (ls.set k c) = (sv ls).set k (.string (st c)) := by simp [sv]

end Go.Proofs.Ytoaemkbdfinaoaa
