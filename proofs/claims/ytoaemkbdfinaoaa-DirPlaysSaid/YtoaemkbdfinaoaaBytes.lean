/-
  Bytes: slices of bytes as lists, and the walk's laws for append, copy, make and conversions, each list under a name of its own.
-/
import Derived.Test.YtoaemkbdfinaoaaAppend
import Derived.Test.YtoaemkbdfinaoaaProg
namespace Go.Proofs.Ytoaemkbdfinaoaa
open Go.RowKit
set_option linter.unusedVariables false

/-- A slice type's row of the program's table. -/
structure Elem (P : Program) (t e : TypeId) (z : Value) (size bytes : Nat) : Prop where
  ht : P.underlying t = some (.slice e)
  info : ∃ i, P.info? e = some i ∧ i.zero = some z ∧ i.size = size ∧ i.bytes = bytes
  zs : z.cells.size = size
  pos : 0 < size

theorem elem_of {P : Program} {t e : TypeId} {z : Value} {size bytes : Nat} (ht : P.underlying t = some (.slice e)) (h : (P.info? e).map (fun i => (i.zero, i.size, i.bytes)) = some (some z, size, bytes)) (zs : z.cells.size = size) (pos : 0 < size) : Elem P t e z size bytes := by
  obtain ⟨i, hi, h1, h2, h3⟩ := info_parts h
  exact ⟨ht, ⟨i, hi, h1, h2, h3⟩, zs, pos⟩

theorem wpList_builtin {P : Program} {w : World} {ops : Array Oper} {rest : List Oper} {o : Oper} {a : Act} {Q : Exit → Act → World → Prop} (hgd : o.guard = none) (s x : Operand) (t u : TypeId)
    (ho : o.op = .call { callee := .builtin .append, args := #[s, x], argTypes := #[t, u] }) (v' : Value) (w' : World)
    (hrun : (Builtin.append_ #[t, u] o.type #[a.eval s, a.eval x]).run P w = .ok v' w') (h : wpList P ops Q rest (a.put o.dst v') w') : wpList P ops Q (o :: rest) a w := by
  refine wpList_plain hgd fun K hK => ?_
  unfold Oper.wp execOp
  simp only [ho, resolve, invoke, builtin, Sem.run_bind, Sem.run_pure, Result.andThen_ok, List.map_toArray, List.map_cons, List.map_nil, hrun]
  exact hK _ _ h

/-- append onto a row of the call's own. -/
theorem wpList_append_mine {P : Program} {w : World} {ops : Array Oper} {rest : List Oper} {o : Oper} {a : Act} {Q : Exit → Act → World → Prop} {t e : TypeId} {z : Value} {size bytes : Nat} (el : Elem P t e z size bytes)
    (hgd : o.guard = none) (s x : Operand) (u : TypeId) (ho : o.op = .call { callee := .builtin .append, args := #[s, x], argTypes := #[t, u] })
    (base : Nat) (v : Value) (n : Nat) (xs : List Value) (hs : a.eval s = v) (hown : Own w base e size v n xs)
    (xv : Value) (hx : a.eval x = xv) (m : Nat) (news : List Value) (hsrc : Src P w u size xv m news)
    (h63 : n + m ≤ 1048576 * 1024) (hby : bytes ≤ 65536) (hbase : base ≤ w.heap.size)
    (h : ∀ (A : Option Addr) (c : Nat) (w' : World), Own w' base e size (.slice A (n + m) c) (n + m) (xs ++ news) → w.grownBy w' v.ownBlock → ((Value.slice A (n + m) c).ownBlock = v.ownBlock ∨ (Value.slice A (n + m) c).ownBlock = some w.heap.size) →
      wpList P ops Q rest (a.put o.dst (.slice A (n + m) c)) w') : wpList P ops Q (o :: rest) a w := by
  obtain ⟨i, hi, hz, h2, h3⟩ := el.info
  obtain ⟨v', w', hr, h4, h5, h6⟩ := run_append_src (P := P) w base t u o.type e i z size bytes el.ht hi hz h2 h3 el.zs v n xs hown xv m news hsrc (by unfold maxLen; omega)
    (Nat.le_trans (Nat.mul_le_mul h63 hby) (by omega)) hbase
  obtain ⟨A, c, rfl, _⟩ := h4.form
  exact wpList_builtin hgd s x t u ho _ w' (by rw [hs, hx]; exact hr) (h A c w' h4 h5 h6)

/-- append onto a row that is full: new memory. -/
theorem wpList_append_full {P : Program} {w : World} {ops : Array Oper} {rest : List Oper} {o : Oper} {a : Act} {Q : Exit → Act → World → Prop} {t e : TypeId} {z : Value} {size bytes : Nat} (el : Elem P t e z size bytes)
    (hgd : o.guard = none) (s x : Operand) (u : TypeId) (ho : o.op = .call { callee := .builtin .append, args := #[s, x], argTypes := #[t, u] })
    (base : Nat) (A0 : Option Addr) (n cap B : Nat) (xs : List Value) (hs : a.eval s = .slice A0 n cap) (hr : Reads w B size A0 n xs)
    (xv : Value) (hx : a.eval x = xv) (m : Nat) (news : List Value) (hsrc : Src P w u size xv m news) (hgrow : cap < n + m)
    (h63 : n + m ≤ 1048576 * 1024) (hby : bytes ≤ 65536) (hbase : base ≤ w.heap.size)
    (h : ∀ (A : Option Addr) (c : Nat) (w' : World), Own w' base e size (.slice A (n + m) c) (n + m) (xs ++ news) → Below w.heap.size w w' → (Value.slice A (n + m) c).ownBlock = some w.heap.size →
      wpList P ops Q rest (a.put o.dst (.slice A (n + m) c)) w') : wpList P ops Q (o :: rest) a w := by
  obtain ⟨i, hi, hz, h2, h3⟩ := el.info
  obtain ⟨v', w', hr', h4, h5, h6⟩ := run_append_new (P := P) w base t u o.type e i z size bytes el.ht hi hz h2 h3 el.zs A0 n cap B xs hr xv m news hsrc hgrow (by unfold maxLen; omega)
    (Nat.le_trans (Nat.mul_le_mul h63 hby) (by omega)) hbase
  obtain ⟨A, c, rfl, _⟩ := h4.form
  exact wpList_builtin hgd s x t u ho _ w' (by rw [hs, hx]; exact hr') (h A c w' h4 h5 h6)

/-! ### Bytes -/
def bv (l : List UInt8) : List Value := l.map fun c => .int .u8 (c.toNat : Int)
theorem bv_length (l : List UInt8) : (bv l).length = l.length := by simp [bv]
theorem bv_append (l m : List UInt8) : bv (l ++ m) = bv l ++ bv m := by simp [bv]
theorem bv_take (l : List UInt8) (k : Nat) : bv (l.take k) = (bv l).take k := by simp [bv]
theorem bv_drop (l : List UInt8) (k : Nat) : bv (l.drop k) = (bv l).drop k := by simp [bv]
theorem bv_set (l : List UInt8) (k : Nat) (c : UInt8) : bv (l.set k c) = (bv l).set k (.int .u8 (c.toNat : Int)) := by simp [bv]
theorem bv_one (l : List UInt8) : ∀ v ∈ bv l, v.oneCell' = true := by
  intro v hv
  simp only [bv, List.mem_map] at hv
  obtain ⟨c, _, rfl⟩ := hv
  rfl
theorem bv_at (l : List UInt8) (k : Nat) : (bv l)[k]? = (l[k]?).map fun c => .int .u8 (c.toNat : Int) := by simp [bv]
theorem bv_str (s : ByteArray) : Lib.strCells s = bv s.data.toList := rfl

/-- The bytes l as a string. -/
def st (l : List UInt8) : ByteArray := ⟨l.toArray⟩
theorem st_toList (l : List UInt8) : (st l).data.toList = l := by simp [st]
theorem st_size (l : List UInt8) : (st l).size = l.length := by simp [st, ByteArray.size]
theorem st_list (l : List UInt8) : (st l).toList = l := by unfold st; simp
theorem st_append (a b : List UInt8) : st a ++ st b = st (a ++ b) := by
  apply ByteArray.ext
  simp [st]
attribute [go_sem] st_size st_list st_append
theorem st_of (s : ByteArray) : s = st s.data.toList := by simp [st]

/-- '.slice A n c' reads as the bytes l, below block B. -/
def RdB (w : World) (B : Nat) (A : Option Addr) (n : Nat) (l : List UInt8) : Prop := Reads w B 1 A n (bv l)
/-- '.slice A n c' owns the bytes l, from block base on. -/
def OwB (w : World) (base : Nat) (A : Option Addr) (n c : Nat) (l : List UInt8) : Prop := Own w base 5 1 (.slice A n c) n (bv l)

section
variable {w w' : World} {B base n c : Nat} {A : Option Addr} {l : List UInt8}
theorem RdB.len (h : RdB w B A n l) : l.length = n := by have := h.1; rw [bv_length] at this; omega
theorem OwB.rd (h : OwB w base A n c l) : RdB w w.heap.size A n l := Own.reads h
theorem OwB.len (h : OwB w base A n c l) : l.length = n := h.rd.len
theorem OwB.cap (h : OwB w base A n c l) : n ≤ c ∧ c ≤ maxLen := by
  obtain ⟨a, c', hv, h1, h2⟩ := Own.form h
  injection hv with _ _ h3
  subst h3
  exact ⟨h1, h2⟩
theorem OwB.up (h : OwB w base A n c l) (hb : Below w.heap.size w w') : OwB w' base A n c l := Own.up h hb
theorem OwB.lower {base' : Nat} (h : OwB w base A n c l) (hb : base' ≤ base) : OwB w base' A n c l := Own.lower h hb
theorem OwB.nil (w : World) (base : Nat) : OwB w base none 0 0 [] := Own.nil w base 5 1
theorem OwB.alloc (h : OwB w base A n c l) (o : Obj) : OwB (w.alloc o) base A n c l := Own.alloc h o
theorem OwB.drew (h : OwB w base A n c l) : OwB w.drew base A n c l := h
theorem OwB.drewN (h : OwB w base A n c l) (k : Nat) : OwB (w.drewN k) base A n c l := h
theorem RdB.alloc (h : RdB w B A n l) (hB : B ≤ w.heap.size) (o : Obj) : RdB (w.alloc o) B A n l := Reads.alloc h hB o
theorem RdB.drew (h : RdB w B A n l) : RdB w.drew B A n l := h
theorem RdB.drewN (h : RdB w B A n l) (k : Nat) : RdB (w.drewN k) B A n l := h
theorem RdB.below (h : RdB w B A n l) (hb : Below B w w') : RdB w' B A n l := Reads.below h hb
theorem RdB.more {B' : Nat} (h : RdB w B A n l) (hB : B ≤ B') : RdB w B' A n l := Reads.more h hB
theorem RdB.up (h : RdB w w.heap.size A n l) (hb : Below w.heap.size w w') : RdB w' w'.heap.size A n l := (h.below hb).more hb.size
theorem RdB.nil : RdB w B A 0 [] := ⟨by simp [bv], fun h => by simp at h⟩
theorem RdB.first (h : RdB w B A n l) {k : Nat} (hk : k ≤ n) : RdB w B A k (l.take k) := by
  have := Reads.first h hk
  unfold RdB
  rwa [bv_take]
theorem RdB.cut (h : RdB w B A n l) {k : Nat} (hk : k ≤ n) (hc : n ≤ c) : RdB w B (if c = k then A else A.map (·.add k)) (n - k) (l.drop k) := by
  have := Reads.cut h hk hc
  unfold RdB
  rw [bv_drop]
  simpa using this
theorem RdB.at_ {k : Nat} (h : RdB w B A n l) (hk : k < n) : ∃ b off, ∃ x : UInt8, A = some ⟨b, off, none⟩ ∧ b < B ∧ l[k]? = some x ∧ w.cell? ⟨b, off + k, none⟩ = some (.int .u8 (x.toNat : Int)) := by
  obtain ⟨b, off, u, h1, h2, h3, h4⟩ := Reads.at_ h hk
  have hl : k < l.length := by rw [h.len]; exact hk
  rw [bv_at, List.getElem?_eq_getElem hl] at h3
  simp at h3
  subst h3
  exact ⟨b, off, l[k], h1, h2, List.getElem?_eq_getElem hl, h4⟩
theorem RdB.src {P : Program} (h : RdB w B A n l) (u e : TypeId) (hu : P.underlying u = some (.slice e)) : Src P w u 1 (.slice A n c) n (bv l) := Src.ofReads u e hu h (bv_one l)
/-- A row with an element has a block of its own. -/
theorem OwB.blk (h : OwB w base A n c l) (hn : 0 < n) : ∃ g, A = some ⟨g, 0, none⟩ ∧ base ≤ g ∧ g < w.heap.size := by
  rcases h.2 with ⟨hv, h0⟩ | ⟨g, cap, cur, fz, hv, hbg, _⟩
  · omega
  · injection hv with h1
    subst h1
    exact ⟨g, rfl, hbg, (Own.lt h g rfl).2⟩
end

theorem byte_back (l : List UInt8) : #[].toList ++ List.map ((fun n : Int => UInt8.ofNat n.toNat) ∘ fun c : UInt8 => (c.toNat : Int)) l = l := by
  have : ((fun n : Int => UInt8.ofNat n.toNat) ∘ fun c : UInt8 => (c.toNat : Int)) = id := by
    funext c
    simp
  rw [this]
  simp
/-- string(b). -/
theorem run_bytes_string {P : Program} {w : World} {B n c : Nat} {A : Option Addr} {l : List UInt8} (src dst e : TypeId) (hs : P.underlying src = some (.slice e)) (he : P.underlying e = some (.int .u8)) (hd : P.underlying dst = some .string) (h : RdB w B A n l) :
    (convert src dst (.slice A n c)).run P w = .ok (.string (st l)) w := by
  have hln := h.len
  rcases Nat.eq_zero_or_pos n with h0 | h0
  · have hl : l = [] := List.eq_nil_of_length_eq_zero (by omega)
    subst hl
    subst h0
    cases A with
    | none => exact run_convert_bytes_nil w src e hs he 0 c dst hd
    | some ad =>
      rw [run_convert_bytes_string w src dst e _ _ c hs he hd]
      exact run_bytesToString w ad 0 c [] (by simp [loadCells, loadCellsFrom])
  · obtain ⟨ad, rfl, _, hc⟩ := h.2 h0
    have hl := run_loadCells_list (P := P) w ad (bv l) hc
    have hb : bv l = (l.map fun c => (c.toNat : Int)).map (Value.int .u8) := by simp [bv]
    rw [bv_length, hb, hln] at hl
    rw [run_convert_bytes_string w src dst e _ _ c hs he hd, run_bytesToString w ad n c _ hl, foldl_push_bytes]
    simp [st, ByteArray.empty, ByteArray.emptyWithCapacity]
    exact byte_back l

/-- append of bytes onto bytes of the call's own. -/
theorem wpList_appendB {P : Program} {w : World} {ops : Array Oper} {rest : List Oper} {o : Oper} {a : Act} {Q : Exit → Act → World → Prop} {t : TypeId} (el : Elem P t 5 (.int .u8 0) 1 1)
    (hgd : o.guard = none) (s x : Operand) (u : TypeId) (ho : o.op = .call { callee := .builtin .append, args := #[s, x], argTypes := #[t, u] })
    (base : Nat) (A0 : Option Addr) (n0 c0 : Nat) (l1 : List UInt8) (hs : a.eval s = .slice A0 n0 c0) (hown : OwB w base A0 n0 c0 l1)
    (xv : Value) (hx : a.eval x = xv) (m : Nat) (l2 : List UInt8) (hsrc : Src P w u 1 xv m (bv l2))
    (h63 : n0 + m ≤ 1073741824) (hbase : base ≤ w.heap.size)
    (h : ∀ (A : Option Addr) (n c : Nat) (l' : List UInt8) (w' : World), Hid (l' = l1 ++ l2) → Hid (n = n0 + m) → OwB w' base A n c l' → Below base w w' → w.grownBy w' (A0.map (·.block)) →
      wpList P ops Q rest (a.put o.dst (.slice A n c)) w') : wpList P ops Q (o :: rest) a w := by
  refine wpList_append_mine el hgd s x u ho base (.slice A0 n0 c0) n0 (bv l1) hs hown xv hx m (bv l2) hsrc h63 (by omega) hbase ?_
  intro A c w' ho' hg _
  have hr : (Value.slice A0 n0 c0).ownBlock = A0.map (·.block) := by cases A0 <;> rfl
  rw [hr] at hg
  refine h A (n0 + m) c (l1 ++ l2) w' rfl rfl ?_ ⟨hg.os, hg.tape, hg.output, hg.size, fun k hk => hg.block k (by omega) (fun e => ?_)⟩ hg
  · unfold OwB
    rw [bv_append]
    exact ho'
  · have := (Own.lt hown k (by rw [hr]; exact e.symm)).1
    omega

/-- append of bytes onto bytes without spare room: new memory. -/
theorem wpList_append_fullB {P : Program} {w : World} {ops : Array Oper} {rest : List Oper} {o : Oper} {a : Act} {Q : Exit → Act → World → Prop} {t : TypeId} (el : Elem P t 5 (.int .u8 0) 1 1)
    (hgd : o.guard = none) (s x : Operand) (u : TypeId) (ho : o.op = .call { callee := .builtin .append, args := #[s, x], argTypes := #[t, u] })
    (base : Nat) (A0 : Option Addr) (n0 c0 B : Nat) (l1 : List UInt8) (hs : a.eval s = .slice A0 n0 c0) (hr : RdB w B A0 n0 l1)
    (xv : Value) (hx : a.eval x = xv) (m : Nat) (l2 : List UInt8) (hsrc : Src P w u 1 xv m (bv l2)) (hgrow : c0 < n0 + m)
    (h63 : n0 + m ≤ 1073741824) (hbase : base ≤ w.heap.size)
    (h : ∀ (A : Option Addr) (n c : Nat) (l' : List UInt8) (w' : World), Hid (l' = l1 ++ l2) → Hid (n = n0 + m) → OwB w' base A n c l' → Below w.heap.size w w' →
      wpList P ops Q rest (a.put o.dst (.slice A n c)) w') : wpList P ops Q (o :: rest) a w := by
  refine wpList_append_full el hgd s x u ho base A0 n0 c0 B (bv l1) hs hr xv hx m (bv l2) hsrc hgrow h63 (by omega) hbase ?_
  intro A c w' ho' hg _
  refine h A (n0 + m) c (l1 ++ l2) w' rfl rfl ?_ hg
  unfold OwB
  rw [bv_append]
  exact ho'

/-- One byte in a block of its own ('append(b, c)'). -/
theorem Src.oneByte {P : Program} (w : World) (u e : TypeId) (hu : P.underlying u = some (.slice e)) (x : UInt8) (t : TypeId) :
    Src P (w.alloc (.cells #[.int .u8 (x.toNat : Int)] t)) u 1 (.slice (some ⟨w.heap.size, 0, none⟩) 1 1) 1 (bv [x]) :=
  Src.ofReads (B := w.heap.size + 1) u e hu ⟨by simp [bv], fun _ => ⟨_, rfl, by simp, fun j v hv => cell_one_new w _ t j v (by simpa [bv] using hv)⟩⟩ (bv_one _)
theorem Src.str {P : Program} (w : World) (u : TypeId) (hu : P.underlying u = some .string) (l : List UInt8) : Src P w u 1 (.string (st l)) l.length (bv l) := by
  have := Src.ofString w u hu (st l)
  rwa [bv_str, st_toList, st_size] at this

end Go.Proofs.Ytoaemkbdfinaoaa
