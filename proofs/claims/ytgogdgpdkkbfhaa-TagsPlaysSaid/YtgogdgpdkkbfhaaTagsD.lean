/-
  Layer 22: take, Pick, Flush, Len.
-/
import Derived.Test.YtgogdgpdkkbfhaaTagsC
namespace Go.Proofs.Ytgogdgpdkkbfhaa
open Go.RowKit
set_option linter.unusedVariables false
set_option linter.unusedSimpArgs false

/-! ### copy within one block -/
theorem run_copyMid {P : Program} {w : World} {g o p k : Nat} {t e dT sT ty : TypeId} {z : Value} {cs : List Value} (hu : P.underlying dT = some (.slice e)) (hk : (P.info? e).map (·.size) = some k) (h : Blk w g t cs) (m dl dc c2 : Nat) (A2 : Option Addr) (hA : m = 0 ∨ A2 = some ⟨g, p, none⟩) (hmd : m ≤ dl)
    (hl : o + m * k ≤ cs.length) (hl2 : p + m * k ≤ cs.length) (h1 : ∀ v ∈ (cs.drop p).take (m * k), v.oneCell' = true) :
    (Builtin.copy_ #[dT, sT] ty #[.slice (some ⟨g, o, none⟩) dl dc, .slice A2 m c2]).run P w = .ok (goInt m) (w.setRow g (cs.take o ++ (cs.drop p).take (m * k) ++ cs.drop (o + m * k)).toArray) := by
  obtain ⟨i, hi, hsz⟩ := Option.map_eq_some_iff.1 hk
  have hlen : ((cs.drop p).take (m * k)).length = m * k := by rw [List.length_take, List.length_drop]; omega
  have hmin : Nat.min m dl = m := Nat.min_eq_left hmd
  have hst := run_storeCells_atM P g o t (0, 0) ((cs.drop p).take (m * k)) 0 cs.toArray w h (.inl (Nat.le_refl _)) (by rw [hlen]; simpa using hl) h1
  simp only [Nat.add_zero, hlen] at hst
  have hf : (Builtin.firstCells k m (.slice A2 m c2)).run P w = .ok ((cs.drop p).take (m * k)).toArray w := by
    rcases hA with rfl | rfl
    · cases A2 with
      | none => simp [Builtin.firstCells]
      | some a =>
        have := run_loadCells_list (P := P) w a [] (by simp)
        simpa [Builtin.firstCells] using this
    · have := run_loadCells_list (P := P) w ⟨g, p, none⟩ ((cs.drop p).take (m * k)) (fun j v hv => by
        rw [Addr.add_mid]
        refine h.cell _ _ ?_
        rw [List.getElem?_take] at hv
        split at hv
        · rw [List.getElem?_drop] at hv; exact hv
        · cases hv)
      rw [hlen] at this
      simpa [Builtin.firstCells] using this
  simp only [Builtin.copy_, run_underlying hu, sizeOf, typeInfo, Builtin.lenOf, Sem.run_bind, Result.andThen_ok, Sem.run_pure, List.getElem?_toArray, List.getElem?_cons_zero, List.getElem?_cons_succ]
  simp [hi, hsz, hmin, hf, hst]
theorem wpList_copyMid {P : Program} {w : World} {ops : Array Oper} {rest : List Oper} {oo : Oper} {a : Act} {Q : Exit → Act → World → Prop} (hgd : oo.guard = none) (d x : Operand) {dT sT e t : TypeId} (ho : oo.op = .call { callee := .builtin .copy, args := #[d, x], argTypes := #[dT, sT] })
    {g o p k : Nat} {cs : List Value} (hu : P.underlying dT = some (.slice e)) (hk : (P.info? e).map (·.size) = some k) (h : Blk w g t cs) (m dl dc c2 : Nat) (A2 : Option Addr) (hd : a.eval d = .slice (some ⟨g, o, none⟩) dl dc) (hx : a.eval x = .slice A2 m c2) (hA : m = 0 ∨ A2 = some ⟨g, p, none⟩) (hmd : m ≤ dl)
    (hl : o + m * k ≤ cs.length) (hl2 : p + m * k ≤ cs.length) (h1 : ∀ v ∈ (cs.drop p).take (m * k), v.oneCell' = true)
    (kk : wpList P ops Q rest (a.put oo.dst (goInt m)) (w.setRow g (cs.take o ++ (cs.drop p).take (m * k) ++ cs.drop (o + m * k)).toArray)) : wpList P ops Q (oo :: rest) a w := by
  refine wpList_plain hgd fun K hK => ?_
  unfold Oper.wp execOp
  simp only [ho, resolve, invoke, builtin, Sem.run_bind, Sem.run_pure, Result.andThen_ok, List.map_toArray, List.map_cons, List.map_nil, hd, hx, run_copyMid (z := .nilIface) (sT := sT) (ty := oo.type) hu hk h m dl dc c2 A2 hA hmd hl hl2 h1]
  exact hK _ _ kk

section
variable {k : Nat} {rows : List (List Value)}
theorem flat_take (h : ∀ r ∈ rows, r.length = k) (tl : List Value) : ∀ i, i ≤ rows.length → (rows.flatten ++ tl).take (i * k) = (rows.take i).flatten := by
  induction rows with
  | nil => intro i hi; simp at hi; subst hi; simp
  | cons r0 rs ih =>
    intro i hi
    have h0 := h r0 List.mem_cons_self
    cases i with
    | zero => simp
    | succ i =>
      have := ih (fun x hx => h x (List.mem_cons_of_mem _ hx)) i (by simpa using hi)
      simp only [List.flatten_cons, List.append_assoc, List.take_succ_cons]
      rw [← this, Nat.add_mul, Nat.one_mul, List.take_append, List.take_of_length_le (by omega)]
      congr 2
      omega
theorem flat_drop (h : ∀ r ∈ rows, r.length = k) (tl : List Value) : ∀ i, i ≤ rows.length → (rows.flatten ++ tl).drop (i * k) = (rows.drop i).flatten ++ tl := by
  induction rows with
  | nil => intro i hi; simp at hi; subst hi; simp
  | cons r0 rs ih =>
    intro i hi
    have h0 := h r0 List.mem_cons_self
    cases i with
    | zero => simp
    | succ i =>
      have := ih (fun x hx => h x (List.mem_cons_of_mem _ hx)) i (by simpa using hi)
      simp only [List.flatten_cons, List.append_assoc, List.drop_succ_cons]
      rw [← this, Nat.add_mul, Nat.one_mul, List.drop_append, List.drop_of_length_le (by omega), List.nil_append]
      congr 1
      omega
/-- The rows behind the copy. -/
def rowsCut (rows : List (List Value)) (k m : Nat) : List (List Value) := rows.take k ++ (rows.drop (k + 1)).take m ++ rows.drop (k + m)
theorem flat_cut (h : ∀ r ∈ rows, r.length = k) (tl : List Value) (i m : Nat) (hi : i + 1 + m ≤ rows.length) :
    (rows.flatten ++ tl).take (i * k) ++ ((rows.flatten ++ tl).drop ((i + 1) * k)).take (m * k) ++ (rows.flatten ++ tl).drop (i * k + m * k) = (rowsCut rows i m).flatten ++ tl := by
  rw [flat_take h tl i (by omega), flat_drop h tl (i + 1) (by omega), flat_take (rows := rows.drop (i + 1)) (fun r hr => h r (List.mem_of_mem_drop hr)) tl m (by rw [List.length_drop]; omega), ← Nat.add_mul, flat_drop h tl (i + m) (by omega)]
  simp [rowsCut, List.append_assoc]
theorem rowsCut_length (i m : Nat) (hi : i + 1 + m ≤ rows.length) : (rowsCut rows i m).length = rows.length := by
  simp only [rowsCut, List.length_append, List.length_take, List.length_drop]; omega
theorem rowsCut_mem {r : List Value} {i m : Nat} (h : r ∈ rowsCut rows i m) : r ∈ rows := by
  simp only [rowsCut, List.mem_append] at h
  rcases h with (h | h) | h
  · exact List.mem_of_mem_take h
  · exact List.mem_of_mem_drop (List.mem_of_mem_take h)
  · exact List.mem_of_mem_drop h
theorem rowsCut_set (i m : Nat) (hi : i + 1 + m ≤ rows.length) (z : List Value) : ((rowsCut rows i m).set (i + m) z).take (i + m) = (rows.take (i + m + 1)).eraseIdx i := by
  rw [List.take_set_of_le (Nat.le_refl _), List.eraseIdx_eq_take_drop_succ, rowsCut, List.take_append_of_le_length (by simp only [List.length_append, List.length_take, List.length_drop]; omega), List.take_of_length_le (by simp only [List.length_append, List.length_take, List.length_drop]; omega), List.take_take, List.drop_take]
  congr 2
  · omega
  · omega
end

theorem askZ_one : ∀ v ∈ askZ, v.oneCell' = true := List.all_eq_true.1 (show (askZ.all fun v => v.oneCell') = true by kernel_rfl)
theorem TG.dec {w : World} {g n most q : Nat} {rows : List (List Value)} (h : TG w g rows n most) (hq : q ≤ n) : TG (w.setCell ⟨g, 112, none⟩ (.int .i64 (q : Int))) g rows q most := by
  refine ⟨h.1, h.2.1, Nat.le_trans hq h.2.2.1, h.2.2.2.1, ?_⟩
  have h3 := h.2.2.2.2.set 112 (.int .i64 (q : Int))
  have hl : rows.flatten.length = 112 := by rw [flat_length h.2.1, h.1]
  rw [List.set_append_right _ _ (by omega), hl] at h3
  exact h3

theorem TG.cut {w : World} {g n most k k1 m : Nat} {rows : List (List Value)} (h : TG w g rows n most) (hk1 : k1 = k + 1) (hm : k + 1 + m ≤ 8) : TG (w.setRow g ((rows.flatten ++ ([.int .i64 n, .int .i64 most] : List Value)).take (k * 14) ++ ((rows.flatten ++ ([.int .i64 n, .int .i64 most] : List Value)).drop (k1 * 14)).take (m * 14) ++ (rows.flatten ++ ([.int .i64 n, .int .i64 most] : List Value)).drop (k * 14 + m * 14)).toArray) g (rowsCut rows k m) n most := by
  subst hk1
  refine ⟨by rw [rowsCut_length _ _ (by rw [h.1]; exact hm)]; exact h.1, fun r hr => h.2.1 r (rowsCut_mem hr), h.2.2.1, h.2.2.2.1, ?_⟩
  have h3 := h.2.2.2.2.setRow ((rows.flatten ++ ([.int .i64 n, .int .i64 most] : List Value)).take (k * 14) ++ ((rows.flatten ++ ([.int .i64 n, .int .i64 most] : List Value)).drop ((k + 1) * 14)).take (m * 14) ++ (rows.flatten ++ ([.int .i64 n, .int .i64 most] : List Value)).drop (k * 14 + m * 14))
  rw [← flat_cut h.2.1 _ k m (by rw [h.1]; exact hm)]
  exact h3
theorem TG.putRow {w : World} {g n most q : Nat} {rows : List (List Value)} (h : TG w g rows n most) (xs : List Value) (hx : xs.length = 14) (hq : q < 8) : TG (w.setRow g ((rows.flatten ++ ([.int .i64 n, .int .i64 most] : List Value)).take (q * 14) ++ xs ++ (rows.flatten ++ ([.int .i64 n, .int .i64 most] : List Value)).drop (q * 14 + xs.length)).toArray) g (rows.set q xs) n most := by
  refine ⟨by rw [List.length_set]; exact h.1, ?_, h.2.2.1, h.2.2.2.1, ?_⟩
  · intro r hr
    rcases List.mem_or_eq_of_mem_set hr with h' | rfl
    · exact h.2.1 r h'
    · exact hx
  · have h3 := h.2.2.2.2.setRow ((rows.flatten ++ ([.int .i64 n, .int .i64 most] : List Value)).take (q * 14) ++ xs ++ (rows.flatten ++ ([.int .i64 n, .int .i64 most] : List Value)).drop (q * 14 + xs.length))
    rw [← flat_set h.2.1 [.int .i64 n, .int .i64 most] xs hx q (by rw [h.1]; exact hq)]
    exact h3
theorem TG.len {w : World} {g n most : Nat} {rows : List (List Value)} (h : TG w g rows n most) : (rows.flatten ++ ([.int .i64 n, .int .i64 most] : List Value)).length = 114 := by
  rw [List.length_append, flat_length h.2.1, h.1]; rfl
theorem Keeps.more {G G' : Nat → Prop} {w w' w'' : World} (h : Keeps G w w') (h' : Keeps G' w' w'') (hG : ∀ k, k < w.heap.size → G' k → G k) : Keeps G w w'' :=
  ⟨h'.os.trans h.os, h'.tape.trans h.tape, h'.output.trans h.output, Nat.le_trans h.size h'.size, fun k hk hn => (h'.block k (Nat.lt_of_lt_of_le hk h.size) (fun hg => hn (hG k hk hg))).trans (h.block k hk hn)⟩

/-- What take leaves. -/
def TakePost (g : Nat) (rows : List (List Value)) (q most k : Nat) (r : Array Value) (w : World) (e : Ending) (w' : World) : Prop :=
  e = .returned (.agg r) ∧ ∃ rows', Hid (rows'.take q = (rows.take (q + 1)).eraseIdx k) ∧ Hid (∀ r ∈ rows', r ∈ rows ∨ r = askZ) ∧ TG w' g rows' q most ∧ Keeps (Is g) w w'

set_option maxRecDepth 100000 in
set_option maxHeartbeats 4000000 in
theorem take_any (g : Nat) (rows : List (List Value)) (n q most k : Nat) (x0 x1 x2 x3 x4 x5 x6 x7 x8 x9 x10 x11 x12 x13 : Value) (w : World) (h : TG w g rows n most) (hnq : n = q + 1) (hk : k ≤ q) (hr : rows[k]? = some [x0, x1, x2, x3, x4, x5, x6, x7, x8, x9, x10, x11, x12, x13]) (h1 : ∀ r ∈ rows, ∀ v ∈ r, v.oneCell' = true) :
    Calls Try.prog 33 #[.pointer (some ⟨g, 0, none⟩), .int .i64 k] w (TakePost g rows q most k #[x0, x1, x2, x3, x4, x5, x6, x7, x8, x9, x10, x11, x12, x13] w) := by
  have hz := askZ_zero
  have hn8 : n ≤ 8 := Nat.le_trans h.2.2.1 h.2.2.2.1
  have i0 : (0 : Int) ≤ k := by omega
  have i8 : (k : Int) < 8 := by omega
  have H := Lib.hid h
  have H1 := Lib.hid h1
  have HR := Lib.hid hr
  have hgl := h.lt
  have hb1 : Below w.heap.size w (w.alloc (.cells #[.int .i64 0, .int .i64 0, .int .i64 0, .int .i64 0, .int .i64 0, .int .i64 0, .int .i64 0, .int .i64 0, .int .i64 0, .int .i64 0, .string ByteArray.empty, .slice none 0 0, .int .i64 0, .slice none 0 0] 32)) := (Below.refl _ _).alloc (Nat.le_refl _) _
  have hB1 := Blk.new w 32 askZ
  unfold askZ at hB1
  have hT1 := h.up hb1
  go_enter Try.func33, Try.ntmps33
  go_upto_region 1 with fail
  generalize w.alloc (.cells #[.int .i64 0, .int .i64 0, .int .i64 0, .int .i64 0, .int .i64 0, .int .i64 0, .int .i64 0, .int .i64 0, .int .i64 0, .int .i64 0, .string ByteArray.empty, .slice none 0 0, .int .i64 0, .slice none 0 0] 32) = w1 at hb1 hB1 hT1
  have kc0 : w1.cell? ⟨g, k * 14, none⟩ = some x0 := hT1.at_ hr (show ([x0, x1, x2, x3, x4, x5, x6, x7, x8, x9, x10, x11, x12, x13] : List Value)[0]? = some x0 from rfl)
  have kc1 := hT1.at_ hr (show ([x0, x1, x2, x3, x4, x5, x6, x7, x8, x9, x10, x11, x12, x13] : List Value)[1]? = some x1 from rfl)
  have kc2 := hT1.at_ hr (show ([x0, x1, x2, x3, x4, x5, x6, x7, x8, x9, x10, x11, x12, x13] : List Value)[2]? = some x2 from rfl)
  have kc3 := hT1.at_ hr (show ([x0, x1, x2, x3, x4, x5, x6, x7, x8, x9, x10, x11, x12, x13] : List Value)[3]? = some x3 from rfl)
  have kc4 := hT1.at_ hr (show ([x0, x1, x2, x3, x4, x5, x6, x7, x8, x9, x10, x11, x12, x13] : List Value)[4]? = some x4 from rfl)
  have kc5 := hT1.at_ hr (show ([x0, x1, x2, x3, x4, x5, x6, x7, x8, x9, x10, x11, x12, x13] : List Value)[5]? = some x5 from rfl)
  have kc6 := hT1.at_ hr (show ([x0, x1, x2, x3, x4, x5, x6, x7, x8, x9, x10, x11, x12, x13] : List Value)[6]? = some x6 from rfl)
  have kc7 := hT1.at_ hr (show ([x0, x1, x2, x3, x4, x5, x6, x7, x8, x9, x10, x11, x12, x13] : List Value)[7]? = some x7 from rfl)
  have kc8 := hT1.at_ hr (show ([x0, x1, x2, x3, x4, x5, x6, x7, x8, x9, x10, x11, x12, x13] : List Value)[8]? = some x8 from rfl)
  have kc9 := hT1.at_ hr (show ([x0, x1, x2, x3, x4, x5, x6, x7, x8, x9, x10, x11, x12, x13] : List Value)[9]? = some x9 from rfl)
  have kc10 := hT1.at_ hr (show ([x0, x1, x2, x3, x4, x5, x6, x7, x8, x9, x10, x11, x12, x13] : List Value)[10]? = some x10 from rfl)
  have kc11 := hT1.at_ hr (show ([x0, x1, x2, x3, x4, x5, x6, x7, x8, x9, x10, x11, x12, x13] : List Value)[11]? = some x11 from rfl)
  have kc12 := hT1.at_ hr (show ([x0, x1, x2, x3, x4, x5, x6, x7, x8, x9, x10, x11, x12, x13] : List Value)[12]? = some x12 from rfl)
  have kc13 := hT1.at_ hr (show ([x0, x1, x2, x3, x4, x5, x6, x7, x8, x9, x10, x11, x12, x13] : List Value)[13]? = some x13 from rfl)
  have HB1 := Lib.hid hB1
  have HT1 := Lib.hid hT1
  clear hB1 hT1 h h1 hr
  have hw1 : w.heap.size < w1.heap.size := HB1.out.lt
  have hBz := Blk.new w1 32 askZ
  unfold askZ at hBz
  have hone : ∀ v ∈ ([x0, x1, x2, x3, x4, x5, x6, x7, x8, x9, x10, x11, x12, x13] : List Value), v.oneCell' = true := H1.out _ (List.mem_of_getElem? HR.out)
  have hb2 : Below w1.heap.size w1 ((w1.alloc (.cells #[.int .i64 0, .int .i64 0, .int .i64 0, .int .i64 0, .int .i64 0, .int .i64 0, .int .i64 0, .int .i64 0, .int .i64 0, .int .i64 0, .string ByteArray.empty, .slice none 0 0, .int .i64 0, .slice none 0 0] 32)).setRow w1.heap.size #[x0, x1, x2, x3, x4, x5, x6, x7, x8, x9, x10, x11, x12, x13]) := below_setRow ((Below.refl _ _).alloc (Nat.le_refl _) _) (Nat.le_refl _) _
  have hB2 := hBz.setRow [x0, x1, x2, x3, x4, x5, x6, x7, x8, x9, x10, x11, x12, x13]
  go_upto_region 2 with (refine wpList_storeBlk rfl (.tmp 5) (.tmp 11) rfl rfl [x0, x1, x2, x3, x4, x5, x6, x7, x8, x9, x10, x11, x12, x13] rfl rfl (by kernel_rfl) hBz rfl hone ?_)
  clear kc0 kc1 kc2 kc3 kc4 kc5 kc6 kc7 kc8 kc9 kc10 kc11 kc12 kc13 hBz
  generalize (w1.alloc (.cells #[.int .i64 0, .int .i64 0, .int .i64 0, .int .i64 0, .int .i64 0, .int .i64 0, .int .i64 0, .int .i64 0, .int .i64 0, .int .i64 0, .string ByteArray.empty, .slice none 0 0, .int .i64 0, .slice none 0 0] 32)).setRow w1.heap.size #[x0, x1, x2, x3, x4, x5, x6, x7, x8, x9, x10, x11, x12, x13] = w2 at hb2 hB2
  have HB2 := Lib.hid hB2
  have hw2 : w1.heap.size < w2.heap.size := hB2.lt
  have HT2 := Lib.hid (HT1.out.up hb2)
  have HB12 := Lib.hid (HB1.out.up hb2)
  clear hB2 HT1 HB1
  have kn : w2.drew.cell? ⟨g, 112, none⟩ = some (.int .i64 n) := HT2.out.n_at
  obtain ⟨k1, hk1e⟩ : ∃ k1 : Nat, k1 = k + 1 := ⟨_, rfl⟩
  have hk1 : IntKind.i64.wrap ((k : Int) + 1) = (k1 : Int) := by
    have := IntWalk.i64_in (n := (k : Int) + 1) (by omega)
    omega
  have i1 : (0 : Int) ≤ (k1 : Int) := by omega
  have i2 : (k : Int) ≤ n := by omega
  have i3 : (k1 : Int) ≤ n := by omega
  have i4 : (n : Int) ≤ 8 := by omega
  have j2 : k ≤ n := by omega
  have j3 : k1 ≤ n := by omega
  obtain ⟨Ak, hAk⟩ : ∃ Ak : Addr, (if 8 = k1 then (⟨g, 0, none⟩ : Addr) else ⟨g, k1 * 14, none⟩) = Ak := ⟨_, rfl⟩
  have hA2 : n - k1 = 0 ∨ some Ak = some ⟨g, k1 * 14, none⟩ := by
    by_cases h8 : 8 = k1
    · left; omega
    · right; rw [← hAk, if_neg h8]
  have HA2 := Lib.hid hA2
  clear hA2
  have HK1 := Lib.hid hk1e
  have HNQ := Lib.hid hnq
  have HK := Lib.hid hk
  clear hk1e hnq hk
  refine wp_region_tr (Is g) (.t 0 (.t 1 (.t 2 (.t 3 (.t 4 (.t 5 (.t 6 (.t 9 (.t 10 (.t 11 (.t 12 (.t 13 (.t 14 (.t 15 (.t 16 (.b 7 (.t 8 (.s 17 (.t 18 (.s 19 .nil)))) 17 (.t 18 (.s 7 (.t 8 (.s 19 .nil)))))))))))))))))))) (by kernel_rfl) (by kernel_rfl) ?_
  repeat (refine tr_take (by simp only [List.getElem?_toArray, List.getElem?_cons_succ, List.getElem?_cons_zero]; exact rfl) ?_; go_big_quiet_step (fail); refine wpQuiet_nil ?_)
  refine tr_both (by simp only [List.getElem?_toArray, List.getElem?_cons_succ, List.getElem?_cons_zero]; exact rfl) (by simp only [List.getElem?_toArray, List.getElem?_cons_succ, List.getElem?_cons_zero]; exact rfl) ?_ ?_
  all_goals (
    go_wp2
    refine Solo.mk (Keeps.refl _ _) ?_
    repeat (refine tr_take (by simp only [List.getElem?_toArray, List.getElem?_cons_succ, List.getElem?_cons_zero]; exact rfl) ?_; go_big_quiet_step (fail); refine wpQuiet_nil ?_)
    refine tr_solo (by simp only [List.getElem?_toArray, List.getElem?_cons_succ, List.getElem?_cons_zero]; exact rfl) ?_
    go_wp2
    refine Solo.mk (Keeps.refl _ _) ?_
    repeat (refine tr_take (by simp only [List.getElem?_toArray, List.getElem?_cons_succ, List.getElem?_cons_zero]; exact rfl) ?_; go_big_quiet_step (fail); refine wpQuiet_nil ?_)
    refine tr_solo (by simp only [List.getElem?_toArray, List.getElem?_cons_succ, List.getElem?_cons_zero]; exact rfl) ?_
    have e1 := HK1.out
    have e2 := HNQ.out
    have e3 := HK.out
    have hlen := HT2.out.len
    refine wpList_copyMid (p := k1 * 14) (k := 14) rfl (.tmp 20) (.tmp 30) rfl Try.underlying40 (by kernel_rfl) HT2.out.2.2.2.2.drew (n - k1) (n - k) (8 - k) (8 - k1) _ rfl rfl HA2.out (by omega) (by omega) (by omega) (fun v hv => ?_) ?_
    case refine_1 =>
      have hv2 := List.mem_of_mem_drop (List.mem_of_mem_take hv)
      rcases List.mem_append.1 hv2 with h | h
      · obtain ⟨r, hr, hvr⟩ := List.mem_flatten.1 h
        exact H1.out r hr v hvr
      · simp at h; rcases h with rfl | rfl <;> rfl
    refine wpList_nil ?_
    refine Solo.mk (keeps_setRow _ _) ?_
    refine tr_end ?_
    have hT3 := (show TG w2.drew g rows n most from HT2.out).cut (k := k) (m := n - k1) e1 (by omega)
    have hK3 := (Keeps.refl (Is g) w2).drew.trans (keeps_setRow w2.drew ((rows.flatten ++ ([.int .i64 n, .int .i64 most] : List Value)).take (k * 14) ++ ((rows.flatten ++ ([.int .i64 n, .int .i64 most] : List Value)).drop (k1 * 14)).take ((n - k1) * 14) ++ (rows.flatten ++ ([.int .i64 n, .int .i64 most] : List Value)).drop (k * 14 + (n - k1) * 14)).toArray)
    clear hlen kn e1 e2 e3 hAk
    generalize w2.drew.setRow g ((rows.flatten ++ ([.int .i64 n, .int .i64 most] : List Value)).take (k * 14) ++ ((rows.flatten ++ ([.int .i64 n, .int .i64 most] : List Value)).drop (k1 * 14)).take ((n - k1) * 14) ++ (rows.flatten ++ ([.int .i64 n, .int .i64 most] : List Value)).drop (k * 14 + (n - k1) * 14)).toArray = w3 at hT3 hK3
    have kn3 := hT3.n_at
    have fn3 := hT3.2.2.2.2.free 112
    have HT3 := Lib.hid hT3
    have HK3 := Lib.hid hK3
    clear hT3 hK3
    have hsub : (n : Int) - 1 = (q : Int) := by have := HNQ.out; omega
    go_upto_region 4 with fail
    have hT4 := HT3.out.dec (q := q) (by have := HNQ.out; omega)
    have hK4 := HK3.out.setCell (p := ⟨g, 112, none⟩) (.inl rfl) (.int .i64 (q : Int))
    clear kn3 fn3 hsub HT3 HK3
    generalize w3.setCell ⟨g, 112, none⟩ (.int .i64 (q : Int)) = w4 at hT4 hK4
    have kn4 : w4.drew.cell? ⟨g, 112, none⟩ = some (.int .i64 q) := hT4.n_at
    have HT4 := Lib.hid hT4
    have HK4 := Lib.hid hK4
    clear hT4 hK4
    have q0 : (0 : Int) ≤ q := by omega
    have q8 : (q : Int) < 8 := by have := HNQ.out; omega
    refine wp_region_tr (Is g) (.t 0 (.t 1 (.t 2 (.t 3 (.t 6 (.t 7 (.b 4 (.s 5 (.t 8 (.s 9 .nil))) 5 (.s 4 (.t 8 (.s 9 .nil)))))))))) (by kernel_rfl) (by kernel_rfl) ?_
    repeat (refine tr_take (by simp only [List.getElem?_toArray, List.getElem?_cons_succ, List.getElem?_cons_zero]; exact rfl) ?_; go_big_quiet_step (fail); refine wpQuiet_nil ?_)
    refine tr_both (by simp only [List.getElem?_toArray, List.getElem?_cons_succ, List.getElem?_cons_zero]; exact rfl) (by simp only [List.getElem?_toArray, List.getElem?_cons_succ, List.getElem?_cons_zero]; exact rfl) ?_ ?_
    all_goals (
      go_wp2
      refine Solo.mk (Keeps.refl _ _) ?_
      refine tr_solo (by simp only [List.getElem?_toArray, List.getElem?_cons_succ, List.getElem?_cons_zero]; exact rfl) ?_
      go_wp2
      refine Solo.mk (Keeps.refl _ _) ?_
      repeat (refine tr_take (by simp only [List.getElem?_toArray, List.getElem?_cons_succ, List.getElem?_cons_zero]; exact rfl) ?_; go_big_quiet_step (fail); refine wpQuiet_nil ?_)
      refine tr_solo (by simp only [List.getElem?_toArray, List.getElem?_cons_succ, List.getElem?_cons_zero]; exact rfl) ?_
      have hlen := HT4.out.len
      refine wpList_storeMid rfl (.tmp 47) (.tmp 44) rfl rfl askZ rfl rfl (by kernel_rfl) HT4.out.2.2.2.2.drew (by rw [hlen]; have := HNQ.out; show q * 14 + 14 ≤ 114; omega) askZ_one ?_
      refine wpList_nil ?_
      refine Solo.mk (keeps_setRow _ _) ?_
      refine tr_end ?_
      have hT5 := (show TG w4.drew g _ q most from HT4.out).putRow (q := q) askZ rfl (by omega)
      have hK5 := HK4.out.drew.trans (keeps_setRow w4.drew (((rowsCut rows k (n - k1)).flatten ++ ([.int .i64 q, .int .i64 most] : List Value)).take (q * 14) ++ askZ ++ ((rowsCut rows k (n - k1)).flatten ++ ([.int .i64 q, .int .i64 most] : List Value)).drop (q * 14 + askZ.length)).toArray)
      clear hlen kn4 HT4 HK4
      generalize w4.drew.setRow g (((rowsCut rows k (n - k1)).flatten ++ ([.int .i64 q, .int .i64 most] : List Value)).take (q * 14) ++ askZ ++ ((rowsCut rows k (n - k1)).flatten ++ ([.int .i64 q, .int .i64 most] : List Value)).drop (q * 14 + askZ.length)).toArray = w5 at hT5 hK5
      have hg1 : ¬ Is g w1.heap.size := by intro e; have : w1.heap.size = g := e; omega
      have hg2 : ¬ Is g w.heap.size := by intro e; have : w.heap.size = g := e; omega
      have hB5 := HB2.out.keeps hK5 hg1
      have hZ5 := HB12.out.keeps hK5 hg2
      have kc0 := hB5.cell 0 _ rfl
      have kc1 := hB5.cell 1 _ rfl
      have kc2 := hB5.cell 2 _ rfl
      have kc3 := hB5.cell 3 _ rfl
      have kc4 := hB5.cell 4 _ rfl
      have kc5 := hB5.cell 5 _ rfl
      have kc6 := hB5.cell 6 _ rfl
      have kc7 := hB5.cell 7 _ rfl
      have kc8 := hB5.cell 8 _ rfl
      have kc9 := hB5.cell 9 _ rfl
      have kc10 := hB5.cell 10 _ rfl
      have kc11 := hB5.cell 11 _ rfl
      have kc12 := hB5.cell 12 _ rfl
      have kc13 := hB5.cell 13 _ rfl
      have hB6 := hZ5.setRow [x0, x1, x2, x3, x4, x5, x6, x7, x8, x9, x10, x11, x12, x13]
      have hT6 := hT5.keeps (keeps_setRow w5 #[x0, x1, x2, x3, x4, x5, x6, x7, x8, x9, x10, x11, x12, x13]) (show ¬ Is w.heap.size g by intro e; have : g = w.heap.size := e; omega)
      have hKw := ((Keeps.of_below (G := Is g) hb1).more (Keeps.of_below (G := Is g) hb2) (fun _ _ h => h)).trans hK5
      have hK6 := hKw.more (keeps_setRow (g := w.heap.size) w5 #[x0, x1, x2, x3, x4, x5, x6, x7, x8, x9, x10, x11, x12, x13]) (fun k hk e => by have : k = w.heap.size := e; omega)
      have HT6 := Lib.hid hT6
      have HK6 := Lib.hid hK6
      have HB6 := Lib.hid hB6
      clear hT5 hK5 hKw hT6 hK6 hB6 hB5
      go_wp2_with (refine wpList_storeBlk rfl (.tmp 4) (.tmp 48) rfl rfl [x0, x1, x2, x3, x4, x5, x6, x7, x8, x9, x10, x11, x12, x13] rfl rfl (by kernel_rfl) hZ5 rfl hone ?_)
      have hB6 := HB6.out
      clear kc0 kc1 kc2 kc3 kc4 kc5 kc6 kc7 kc8 kc9 kc10 kc11 kc12 kc13
      have kd0 := hB6.cell 0 _ rfl
      have kd1 := hB6.cell 1 _ rfl
      have kd2 := hB6.cell 2 _ rfl
      have kd3 := hB6.cell 3 _ rfl
      have kd4 := hB6.cell 4 _ rfl
      have kd5 := hB6.cell 5 _ rfl
      have kd6 := hB6.cell 6 _ rfl
      have kd7 := hB6.cell 7 _ rfl
      have kd8 := hB6.cell 8 _ rfl
      have kd9 := hB6.cell 9 _ rfl
      have kd10 := hB6.cell 10 _ rfl
      have kd11 := hB6.cell 11 _ rfl
      have kd12 := hB6.cell 12 _ rfl
      have kd13 := hB6.cell 13 _ rfl
      refine bodyPost_ret (v := .agg #[x0, x1, x2, x3, x4, x5, x6, x7, x8, x9, x10, x11, x12, x13]) (by simp [results, Try.results33, go_sem, kd0, kd1, kd2, kd3, kd4, kd5, kd6, kd7, kd8, kd9, kd10, kd11, kd12, kd13]) rfl ⟨rfl, _, ?_, ?_, HT6.out, HK6.out⟩
      · have e1 := HK1.out
        have e2 := HNQ.out
        have e3 := HK.out
        have hm : n - k1 = q - k := by omega
        have h9 := rowsCut_set (rows := rows) k (q - k) (by rw [H.out.1]; omega) askZ
        rw [show k + (q - k) = q by omega] at h9
        rw [hm]
        exact h9
      · intro r hr
        rcases List.mem_or_eq_of_mem_set hr with h | h
        · exact .inl (rowsCut_mem h)
        · exact .inr h))
end Go.Proofs.Ytgogdgpdkkbfhaa
