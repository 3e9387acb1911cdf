/-
  Bytes, more: copy, make, []byte(s), string(b) as steps of the walk.
-/
import Derived.Test.YtoaemkbdfinaoaaBytes
import Derived.Laws.CopyOwn
namespace Go.Proofs.Ytoaemkbdfinaoaa
open Go.RowKit
set_option linter.unusedVariables false

/-- copy into a row of the call's own, from place k on. -/
theorem run_copy_mine {P : Program} (w : World) (base : Nat) (dT sT ty e : TypeId) (z : Value) (bytes : Nat) (el : Elem P dT e z 1 bytes)
    (g n cap k dl dc : Nat) (xs : List Value) (hown : Own w base e 1 (.slice (some ⟨g, 0, none⟩) n cap) n xs) (hk : k + dl ≤ n)
    (x : Value) (m : Nat) (news : List Value) (hlen : ∀ w' : World, (Builtin.lenOf x).run P w' = .ok m w') (hn : news.length = Nat.min m dl)
    (hf : (Builtin.firstCells 1 (Nat.min m dl) x).run P w = .ok news.toArray w) (h1 : ∀ v ∈ news, v.oneCell' = true) :
    ∃ w', (Builtin.copy_ #[dT, sT] ty #[.slice (some ⟨g, k, none⟩) dl dc, x]).run P w = .ok (goInt (Nat.min m dl)) w' ∧ Own w' base e 1 (.slice (some ⟨g, 0, none⟩) n cap) n (xs.take k ++ (news ++ xs.drop (k + news.length))) ∧ w.grownBy w' (some g) := by
  obtain ⟨i, hi, hz, h2, h3⟩ := el.info
  rcases hown.2 with ⟨hv, _⟩ | ⟨g', cap', cur, fz, hv, hbg, hg, hfz, hnc, hcm, hcs, htake⟩
  · cases hv
  injection hv with h1' h2' h3'
  injection h1' with h1'
  injection h1' with h1'
  subst h1'
  subst h3'
  have hxl : xs.length = n := by simpa using hown.1
  have hle : news.length ≤ dl := by rw [hn]; exact Nat.min_le_right _ _
  have hst := run_storeCells_atM P g k e fz news 0 cur w hg hfz (by rw [hcs]; omega) h1
  simp only [Nat.add_zero] at hst
  refine ⟨w.setRow g (cur.toList.take k ++ news ++ cur.toList.drop (k + news.length)).toArray, ?_, ⟨?_, .inr ⟨g, cap, _, fz, rfl, hbg, setRow_heap w g cur _ e _ hg, ?_, hnc, hcm, ?_, ?_⟩⟩, ⟨rfl, rfl, rfl, by simp, fun k' _ hk' => setRow_other w g k' _ (fun e => hk' (by rw [e]))⟩⟩
  · simp only [Builtin.copy_, run_underlying el.ht, sizeOf, typeInfo, hlen, Sem.run_bind, Result.andThen_ok, Sem.run_pure, List.getElem?_toArray, List.getElem?_cons_zero, List.getElem?_cons_succ]
    simp [hi, hst, h2, hf]
  · simp only [List.length_append, List.length_take, List.length_drop]; omega
  · have : (cur.toList.take k ++ news ++ cur.toList.drop (k + news.length)).toArray.size = cur.size := by
      simp only [List.size_toArray, List.length_append, List.length_take, List.length_drop, Array.length_toList]; omega
    rw [this]; exact hfz
  · simp only [List.size_toArray, List.length_append, List.length_take, List.length_drop, Array.length_toList]; omega
  · rw [← htake]
    simp only [Nat.mul_one, List.append_assoc]
    rw [List.take_append, List.take_append, List.take_take, List.take_take, Nat.min_eq_right (show k ≤ n by omega), Nat.min_eq_left (show k ≤ n by omega)]
    have e1 : (List.take k cur.toList).length = k := by rw [List.length_take, Array.length_toList]; omega
    rw [e1, List.take_of_length_le (show news.length ≤ n - k by omega), List.drop_take]
    congr 3
    omega

/-- copy of bytes into bytes of the call's own: 'copy(out[k:], x)', the cut being dl bytes long. -/
theorem wpList_copyB {P : Program} {w : World} {ops : Array Oper} {rest : List Oper} {o : Oper} {a : Act} {Q : Exit → Act → World → Prop} {t : TypeId} (el : Elem P t 5 (.int .u8 0) 1 1)
    (hgd : o.guard = none) (d x : Operand) (u : TypeId) (ho : o.op = .call { callee := .builtin .copy, args := #[d, x], argTypes := #[t, u] })
    (base g n c k dl dc : Nat) (l1 : List UInt8) (hown : OwB w base (some ⟨g, 0, none⟩) n c l1) (hd : a.eval d = .slice (some ⟨g, k, none⟩) dl dc) (hk : k + dl ≤ n)
    (xv : Value) (hx : a.eval x = xv) (m : Nat) (l2 : List UInt8) (hlen : ∀ w' : World, (Builtin.lenOf xv).run P w' = .ok m w') (hn : (l2.take dl).length = Nat.min m dl)
    (hf : (Builtin.firstCells 1 (Nat.min m dl) xv).run P w = .ok (bv (l2.take dl)).toArray w)
    (h : ∀ (l' : List UInt8) (w' : World), Hid (l' = l1.take k ++ (l2.take dl ++ l1.drop (k + (l2.take dl).length))) → OwB w' base (some ⟨g, 0, none⟩) n c l' → Below base w w' → w.grownBy w' (some g) →
      wpList P ops Q rest (a.put o.dst (goInt (Nat.min m dl))) w') : wpList P ops Q (o :: rest) a w := by
  obtain ⟨w', hr, h4, h5⟩ := run_copy_mine (P := P) w base t u o.type 5 (.int .u8 0) 1 el g n c k dl dc (bv l1) hown hk xv m (bv (l2.take dl)) hlen (by rw [bv_length]; exact hn) hf (bv_one _)
  refine wpList_plain hgd fun K hK => ?_
  unfold Oper.wp execOp
  simp only [ho, resolve, invoke, builtin, Sem.run_bind, Sem.run_pure, Result.andThen_ok, List.map_toArray, List.map_cons, List.map_nil, hd, hx, hr]
  refine hK _ _ (h _ w' rfl ?_ ⟨h5.os, h5.tape, h5.output, h5.size, fun k hk => h5.block k ?_ (fun e => ?_)⟩ h5)
  · unfold OwB
    rw [bv_append, bv_append, bv_drop, bv_take]
    rw [bv_length] at h4
    exact h4
  · have := (Own.lt hown g rfl); omega
  · have := (Own.lt hown g rfl).1
    injection e with e
    omega

/-- copy from a slice of bytes. -/
theorem wpList_copy_sliceB {P : Program} {w : World} {ops : Array Oper} {rest : List Oper} {o : Oper} {a : Act} {Q : Exit → Act → World → Prop} {t : TypeId} (el : Elem P t 5 (.int .u8 0) 1 1)
    (hgd : o.guard = none) (d x : Operand) (u : TypeId) (ho : o.op = .call { callee := .builtin .copy, args := #[d, x], argTypes := #[t, u] })
    (base g n c k dl dc : Nat) (l1 : List UInt8) (hown : OwB w base (some ⟨g, 0, none⟩) n c l1) (hd : a.eval d = .slice (some ⟨g, k, none⟩) dl dc) (hk : k + dl ≤ n)
    (A2 : Option Addr) (m c2 B : Nat) (hx : a.eval x = .slice A2 m c2) (l2 : List UInt8) (hrd : RdB w B A2 m l2)
    (h : ∀ (l' : List UInt8) (w' : World), Hid (l' = l1.take k ++ (l2.take dl ++ l1.drop (k + (l2.take dl).length))) → OwB w' base (some ⟨g, 0, none⟩) n c l' → Below base w w' → w.grownBy w' (some g) →
      wpList P ops Q rest (a.put o.dst (goInt (Nat.min m dl))) w') : wpList P ops Q (o :: rest) a w := by
  have hln := hrd.len
  refine wpList_copyB el hgd d x u ho base g n c k dl dc l1 hown hd hk _ hx m l2 (fun w' => by simp [Builtin.lenOf]) (by rw [List.length_take, hln]; exact Nat.min_comm _ _) ?_ h
  have hf := (hrd.first (k := Nat.min m dl) (Nat.min_le_left _ _)).src (P := P) (c := c2) t 5 el.ht
  have e : l2.take (Nat.min m dl) = l2.take dl := by
    show l2.take (min m dl) = l2.take dl
    rcases Nat.le_total m dl with hh | hh
    · rw [Nat.min_eq_left hh, List.take_of_length_le (by omega), List.take_of_length_le (by omega)]
    · rw [Nat.min_eq_right hh]
  rw [e] at hf
  have := hf.first
  unfold Builtin.firstCells at this ⊢
  cases A2 <;> exact this

/-- make([]byte, n, c). -/
theorem wpList_makeB {P : Program} {w : World} {ops : Array Oper} {rest : List Oper} {o : Oper} {a : Act} {Q : Exit → Act → World → Prop} {t : TypeId} (el : Elem P t 5 (.int .u8 0) 1 1)
    (hgd : o.guard = none) (x y : Operand) (ho : o.op = .makeSlice t x y) (kl kc : IntKind) (n c : Nat) (hx : a.eval x = .int kl n) (hy : a.eval y = .int kc c) (hnc : n ≤ c) (hc : c ≤ 1073741824) (base : Nat) (hbase : base ≤ w.heap.size)
    (h : ∀ (g : Nat) (l' : List UInt8) (w' : World), Hid (l' = List.replicate n 0) → OwB w' base (some ⟨g, 0, none⟩) n c l' → Below w.heap.size w w' →
      wpList P ops Q rest (a.put o.dst (.slice (some ⟨g, 0, none⟩) n c)) w') : wpList P ops Q (o :: rest) a w := by
  obtain ⟨i, hi, hz, h2, h3⟩ := el.info
  have hr := run_make (P := P) w t 5 i (.int .u8 0) el.ht hi hz kl kc n c (by omega) (by omega) (by rw [h3]; omega) (by omega)
  simp only [Int.toNat_natCast, h2, Nat.mul_one] at hr
  refine wpList_plain hgd fun K hK => ?_
  unfold Oper.wp execOp
  simp only [ho, hx, hy, hr, Sem.run_bind, Result.andThen_ok, Sem.run_pure]
  refine hK _ _ (h w.heap.size _ _ rfl ?_ ((Below.refl _ _).alloc (Nat.le_refl _) _))
  refine ⟨by simp [bv], .inr ⟨w.heap.size, c, _, (0, 0), rfl, hbase, heap_alloc_new w _, .inl (Nat.le_refl _), hnc, by unfold maxLen; omega, by rw [size_madeCells, Nat.mul_one], ?_⟩⟩
  have e : (madeCells (Value.int IntKind.u8 0).cells c).toList = List.replicate c (Value.int .u8 0) := toList_madeCells_one _ c
  rw [e, List.take_replicate]
  simp [bv, Nat.min_eq_left hnc]

/-- []byte(s). -/
theorem wpList_stringB {P : Program} {w : World} {ops : Array Oper} {rest : List Oper} {o : Oper} {a : Act} {Q : Exit → Act → World → Prop} {t : TypeId} (el : Elem P t 5 (.int .u8 0) 1 1) (he : P.underlying 5 = some (.int .u8))
    (hgd : o.guard = none) (x : Operand) (src : TypeId) (hs : P.underlying src = some .string) (ho : o.op = .convert src t x) (l : List UInt8) (hx : a.eval x = .string (st l)) (hl : l.length ≤ 1073741824) (base : Nat) (hbase : base ≤ w.heap.size)
    (h : ∀ (g n c : Nat) (w' : World), Hid (n = l.length) → OwB w' base (some ⟨g, 0, none⟩) n c l → Below w.heap.size w w' →
      wpList P ops Q rest (a.put o.dst (.slice (some ⟨g, 0, none⟩) n c)) w') : wpList P ops Q (o :: rest) a w := by
  have hr := Lib.run_convert_string_bytes (P := P) w src t 5 (st l) hs el.ht he
  refine wpList_plain hgd fun K hK => ?_
  unfold Oper.wp execOp
  simp only [ho, hx, hr, Sem.run_bind, Result.andThen_ok, Sem.run_pure]
  refine hK _ _ (h w.heap.size _ _ _ (st_size l) ?_ (bytesWorld_below _ _ _))
  have := Own.ofString w base 5 (st l) (by rw [st_size]; unfold maxLen; omega) hbase
  rw [st_toList] at this
  exact this

/-- A row of bytes that was just laid. -/
theorem RdB.new (w : World) (l : List UInt8) (C : Array Value) (hC : C.toList = bv l) (t : TypeId) (fz : Nat × Nat) : RdB (w.alloc (.cells C t fz)) (w.heap.size + 1) (some ⟨w.heap.size, 0, none⟩) l.length l := by
  refine ⟨by rw [bv_length, Nat.mul_one], fun _ => ⟨_, rfl, by simp, fun j u hu => ?_⟩⟩
  rw [add_plain, Nat.zero_add]
  rw [← hC] at hu
  have : (w.alloc (.cells C t fz)).heap[w.heap.size]? = some (.cells C t fz) := heap_alloc_new w _
  simp only [World.cell?, this]
  simpa using hu

theorem RdB.new2 (w : World) (o : Obj) (l : List UInt8) (C : Array Value) (hC : C.toList = bv l) (t : TypeId) (fz : Nat × Nat) : RdB ((w.alloc o).alloc (.cells C t fz)) (w.heap.size + 2) (some ⟨w.heap.size + 1, 0, none⟩) l.length l := by
  have := RdB.new (w.alloc o) l C hC t fz
  simpa using this

theorem Src.new {P : Program} (w : World) (u e : TypeId) (hu : P.underlying u = some (.slice e)) (l : List UInt8) (C : Array Value) (hC : C.toList = bv l) (t : TypeId) (n c : Nat) (hn : l.length = n) : Src P (w.alloc (.cells C t)) u 1 (.slice (some ⟨w.heap.size, 0, none⟩) n c) n (bv l) := by
  subst hn
  exact (RdB.new w l C hC t (0, 0)).src u e hu

/-- append of bytes as one step of a region that draws its order. -/
theorem step_appendB {P : Program} {w : World} {ops : Array Oper} {o : Oper} {a : Act} {K : Act → World → Prop} {Q : Exit → Act → World → Prop} {E : Prop} {t : TypeId} (el : Elem P t 5 (.int .u8 0) 1 1)
    (hgd : o.guard = none) (s x : Operand) (u : TypeId) (ho : o.op = .call { callee := .builtin .append, args := #[s, x], argTypes := #[t, u] })
    (base : Nat) (A0 : Option Addr) (n0 c0 : Nat) (l1 : List UInt8) (hs : a.eval s = .slice A0 n0 c0) (hown : OwB w base A0 n0 c0 l1)
    (xv : Value) (hx : a.eval x = xv) (m : Nat) (l2 : List UInt8) (hsrc : Src P w u 1 xv m (bv l2))
    (h63 : n0 + m ≤ 1073741824) (hbase : base ≤ w.heap.size)
    (h : ∀ (A : Option Addr) (n c : Nat) (l' : List UInt8) (w' : World), Hid (l' = l1 ++ l2) → Hid (n = n0 + m) → OwB w' base A n c l' → Below base w w' → w.grownBy w' (A0.map (·.block)) → K (a.put o.dst (.slice A n c)) w') :
    if Region.wanted o (yielded ops a.tmps) = true then Oper.wp P o a w K Q else E := by
  have hw : Region.wanted o (yielded ops a.tmps) = true := by simp [Region.wanted, hgd]
  rw [if_pos hw]
  obtain ⟨i, hi, hz, h2, h3⟩ := el.info
  obtain ⟨v', w', hr, h4, h5, h6⟩ := run_append_src (P := P) w base t u o.type 5 i (.int .u8 0) 1 1 el.ht hi hz h2 h3 el.zs (.slice A0 n0 c0) n0 (bv l1) hown xv m (bv l2) hsrc (by unfold maxLen; omega) (by omega) hbase
  obtain ⟨A, c, rfl, _⟩ := h4.form
  unfold Oper.wp execOp
  simp only [ho, resolve, invoke, builtin, Sem.run_bind, Sem.run_pure, Result.andThen_ok, List.map_toArray, List.map_cons, List.map_nil, hs, hx, hr]
  have hrb : (Value.slice A0 n0 c0).ownBlock = A0.map (·.block) := by cases A0 <;> rfl
  rw [hrb] at h5
  refine h A (n0 + m) c (l1 ++ l2) w' rfl rfl ?_ ⟨h5.os, h5.tape, h5.output, h5.size, fun k hk => h5.block k (by omega) (fun e => ?_)⟩ h5
  · unfold OwB
    rw [bv_append]
    exact h4
  · have := (Own.lt hown k (by rw [hrb]; exact e.symm)).1
    omega

end Go.Proofs.Ytoaemkbdfinaoaa
