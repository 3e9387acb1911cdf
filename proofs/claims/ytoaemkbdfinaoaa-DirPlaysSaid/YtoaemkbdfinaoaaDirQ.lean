/-
  Layer 11: slices.Delete, Drop, Clear.
-/
import Derived.Test.YtoaemkbdfinaoaaDirP
namespace Go.Proofs.Ytoaemkbdfinaoaa
open Go.RowKit
set_option linter.unusedVariables false
set_option linter.unusedSimpArgs false

/-- An append into a row that has room. -/
theorem run_appendRow {P : Program} {w : World} (t u ty e : TypeId) {k : Nat} (ht : P.underlying t = some (.slice e)) (hk : (P.info? e).map (·.size) = some k) (g n cap : Nat) (cs : List Value) (h : Row w g e cs) (hl : cs.length = cap * k)
    (x : Value) (m : Nat) (news : List Value) (hsrc : Src P w u k x m news) (hroom : n + m ≤ cap) :
    (Builtin.append_ #[t, u] ty #[.slice (some ⟨g, 0, none⟩) n cap, x]).run P w = .ok (.slice (some ⟨g, 0, none⟩) (n + m) cap) (w.setRow g (cs.take (n * k) ++ news ++ cs.drop (n * k + news.length)).toArray) := by
  obtain ⟨i, hi, hsz⟩ := Option.map_eq_some_iff.1 hk
  subst hsz
  obtain ⟨fz, hh, hz⟩ := h
  have hfit : n * i.size + news.length ≤ cs.toArray.size := by rw [hsrc.length, List.size_toArray, hl, ← Nat.add_mul]; exact Nat.mul_le_mul_right _ hroom
  have hst := run_storeCells_atM P g (n * i.size) e fz news 0 cs.toArray w hh (by simpa using hz) (by simpa using hfit) hsrc.one
  simp only [Nat.add_zero] at hst
  have hf := hsrc.first
  have hlen := hsrc.len
  rcases hsrc.type with hd | ⟨d, hd⟩ <;> simp [Builtin.append_, run_underlying ht, run_underlying hd, sizeOf, typeInfo, hi, hlen, hroom, hf, Addr.add_lit, hst]
theorem wpList_appendRun {P : Program} {w w' : World} {ops : Array Oper} {rest : List Oper} {oo : Oper} {a : Act} {Q : Exit → Act → World → Prop} (hgd : oo.guard = none) (s x : Operand) {t u : TypeId} (ho : oo.op = .call { callee := .builtin .append, args := #[s, x], argTypes := #[t, u] })
    {sv xv v : Value} (hs : a.eval s = sv) (hx : a.eval x = xv) (hr : ∀ ty, (Builtin.append_ #[t, u] ty #[sv, xv]).run P w = .ok v w')
    (kk : wpList P ops Q rest (a.put oo.dst v) w') : wpList P ops Q (oo :: rest) a w := by
  refine wpList_plain hgd fun K hK => ?_
  unfold Oper.wp execOp
  simp only [ho, resolve, invoke, builtin, Sem.run_bind, Sem.run_pure, Result.andThen_ok, List.map_toArray, List.map_cons, List.map_nil, hs, hx, hr]
  exact hK _ _ kk
theorem zeroCells_len (z : Array Value) (n : Nat) : (Builtin.zeroCells z n).toList.length = n * z.size := by simp [Builtin.zeroCells]
theorem zeroCells_one (z : Array Value) (n : Nat) (hz : ∀ v ∈ z.toList, v.oneCell' = true) : ∀ v ∈ (Builtin.zeroCells z n).toList, v.oneCell' = true := by
  intro v hv
  simp [Builtin.zeroCells] at hv
  obtain ⟨i, hi, rfl⟩ := hv
  have h0 : 0 < z.size := by
    rcases Nat.eq_zero_or_pos z.size with h | h
    · rw [h, Nat.mul_zero] at hi; omega
    · exact h
  have hlt := Nat.mod_lt i h0
  rw [getElem!_pos z (i % z.size) hlt]
  exact hz _ (by simp)
/-- A part of a row cleared. -/
theorem run_clearRow {P : Program} {w : World} (t e ty : TypeId) {t' : TypeId} (z : Value) (ht : P.underlying t = some (.slice e)) (hv : ∀ w, (zeroValue e).run P w = .ok z w) (h1 : ∀ v ∈ z.cells.toList, v.oneCell' = true)
    (g o n c : Nat) (hn : 0 < n) (cs : List Value) (h : Row w g t' cs) (hl : o + n * z.cells.size ≤ cs.length) :
    (Builtin.clear_ #[t] ty #[.slice (some ⟨g, o, none⟩) n c]).run P w = .ok (.tuple #[]) (w.setRow g (cs.take o ++ (Builtin.zeroCells z.cells n).toList ++ cs.drop (o + n * z.cells.size)).toArray) := by
  obtain ⟨fz, hh, hz⟩ := h
  have hst := run_storeCells_atM P g o t' fz (Builtin.zeroCells z.cells n).toList 0 cs.toArray w hh (by simpa using hz) (by rw [zeroCells_len]; simpa using hl) (zeroCells_one _ _ h1)
  simp only [Nat.add_zero, zeroCells_len] at hst
  obtain ⟨m, rfl⟩ : ∃ m, n = m + 1 := ⟨n - 1, by omega⟩
  simp [Builtin.clear_, run_underlying ht, hv, hst]
def delE (es : List EntI) (i : Nat) : List EntI := es.take i ++ es.drop (i + 1)
theorem delE_len (es : List EntI) (i : Nat) (hi : i < es.length) : (delE es i).length = es.length - 1 := by simp [delE]; omega
theorem zeroE (w : World) : (zeroValue 42).run Try.prog w = .ok (.agg #[.string ByteArray.empty, .int .i64 0, .int .i64 0]) w := by kernel_rfl

set_option maxHeartbeats 4000000 in
theorem delete_any (q n c i : Nat) (es : List EntI) (w : World) (h : OwR w 0 42 3 (some ⟨q, 0, none⟩) n c (es.map eiC)) (hi : i < n) (hn : n ≤ 1000) :
    Calls Try.prog 36 #[.slice (some ⟨q, 0, none⟩) n c, .int .i64 i, .int .i64 ((i + 1 : Nat) : Int)] w fun x w' =>
      ∃ n', Hid (n' = n - 1) ∧ x = .returned (.slice (some ⟨q, 0, none⟩) n' c) ∧ OwR w' 0 42 3 (some ⟨q, 0, none⟩) n' c ((delE es i).map eiC) ∧ Keeps (Is q) w w' := by
  obtain ⟨j, hj⟩ : ∃ j, j = i + 1 := ⟨_, rfl⟩
  rw [← hj]
  obtain ⟨_, tl, hA, _, hrow, hrl⟩ := h.row (Nat.lt_of_lt_of_le (Nat.lt_of_le_of_lt (Nat.zero_le _) hi) h.cap.1)
  injection hA with hA
  injection hA with hA
  subst hA
  have HJ := Lib.hid hj
  have HR := Lib.hid hrow
  have HRL := Lib.hid hrl
  have HC := Lib.hid h.cap
  have HL := Lib.hid (show es.length = n by have := h.len; simpa using this)
  have H := Lib.hid h
  have i0 : (0 : Int) ≤ i := Int.natCast_nonneg i
  have ij : (i : Int) ≤ j := by omega
  have ijn : ((i : Int) == (j : Int)) = false := by simp; omega
  have jn : (j : Int) ≤ n := by omega
  have nc : (n : Int) ≤ c := by have := h.cap.1; omega
  have jc : (j : Int) ≤ c := by omega
  have ic : (i : Int) ≤ c := by omega
  have j0 : (0 : Int) ≤ j := Int.natCast_nonneg j
  have n0 : (0 : Int) ≤ n := Int.natCast_nonneg n
  obtain ⟨n1, hn1⟩ : ∃ n1, n1 = i + (n - j) := ⟨_, rfl⟩
  have hn1' : n1 = n - 1 := by omega
  have hcn : ¬ c = n1 := by omega
  have n1n : (n1 : Int) ≤ n := by omega
  have n1c : (n1 : Int) ≤ c := by omega
  have n10 : (0 : Int) ≤ n1 := Int.natCast_nonneg n1
  obtain ⟨X, hX⟩ : ∃ X : Option Addr, (if c = j then some ⟨q, 0, none⟩ else some ⟨q, j * 3, none⟩) = X := ⟨_, rfl⟩
  have HSS := Lib.hid (show Src Try.prog w.drew 25 3 (.slice X (n - j) (c - j)) (n - j) ((es.drop j).map eiC).flatten by
    by_cases hM : n - j = 0
    · have : es.drop j = [] := List.length_eq_zero_iff.1 (by rw [List.length_drop, HL.out, hM])
      rw [this, hM]
      exact src_none w.drew X (c - j) _ _ Try.underlying25
    · have hcj : ¬ c = j := by omega
      have hcut := h.drew.rd.cut (show j ≤ n by omega) h.cap.1
      rw [if_neg hcj, Option.map_some, add_plain, Nat.zero_add, ← List.map_drop] at hcut
      rw [← hX, if_neg hcj]
      exact hcut.src (P := Try.prog) (c := c - j) (by omega) 25 42 Try.underlying25 (fun r hr => by obtain ⟨e, _, rfl⟩ := List.mem_map.1 hr; exact eiC_one e))
  obtain ⟨cs, hcs⟩ : ∃ cs, cs = (es.map eiC).flatten ++ tl := ⟨_, rfl⟩
  rw [← hcs] at hrow hrl
  have hdl : ((es.drop j).map eiC).flatten.length = (n - j) * 3 := by rw [flatE_len, List.length_drop, HL.out]
  obtain ⟨cs1, hcs1⟩ : ∃ x, x = cs.take (i * 3) ++ ((es.drop j).map eiC).flatten ++ cs.drop (i * 3 + ((es.drop j).map eiC).flatten.length) := ⟨_, rfl⟩
  obtain ⟨W1, hW1⟩ : ∃ W, W = w.drew.setRow q cs1.toArray := ⟨_, rfl⟩
  have happ : ∀ ty, (Builtin.append_ #[25, 25] ty #[.slice (some ⟨q, 0, none⟩) i c, .slice X (n - j) (c - j)]).run Try.prog w.drew = .ok (.slice (some ⟨q, 0, none⟩) n1 c) W1 := fun ty => by
    rw [hW1, hcs1, hn1]
    exact run_appendRow _ _ ty 42 Try.underlying25 (by kernel_rfl) q i c cs hrow.drew hrl _ (n - j) _ HSS.out (by omega)
  have hl1 : cs1.length = c * 3 := by rw [hcs1, List.length_append, List.length_append, List.length_take, List.length_drop, hdl, hrl]; omega
  have hrow1 : Row W1 q 42 cs1 := by rw [hW1]; exact hrow.drew.setRow _ (by rw [hl1, hrl])
  obtain ⟨cs2, hcs2⟩ : ∃ x, x = cs1.take (n1 * 3) ++ (Builtin.zeroCells (Value.agg #[.string ByteArray.empty, .int .i64 0, .int .i64 0]).cells (n - n1)).toList ++ cs1.drop (n1 * 3 + (n - n1) * 3) := ⟨_, rfl⟩
  obtain ⟨W2, hW2⟩ : ∃ W, W = W1.setRow q cs2.toArray := ⟨_, rfl⟩
  have hcl : ∀ ty, (Builtin.clear_ #[25] ty #[.slice (some ⟨q, n1 * 3, none⟩) (n - n1) (c - n1)]).run Try.prog W1 = .ok (.tuple #[]) W2 := fun ty => by
    rw [hW2, hcs2]
    exact run_clearRow _ 42 ty (.agg #[.string ByteArray.empty, .int .i64 0, .int .i64 0]) Try.underlying25 zeroE (by simp [Value.cells, Value.oneCell']) q (n1 * 3) (n - n1) (c - n1) (by omega) cs1 hrow1 (by rw [hl1]; simp [Value.cells]; omega)
  have hl2 : cs2.length = c * 3 := by rw [hcs2, List.length_append, List.length_append, List.length_take, List.length_drop, zeroCells_len, hl1]; simp [Value.cells]; omega
  have HOW := Lib.hid (show OwR W2 0 42 3 (some ⟨q, 0, none⟩) n1 c ((delE es i).map eiC) by
    rw [hW2]
    refine OwR.ofRow (hrow1.setRow _ (by rw [hl2, hl1])) hl2 ?_ (eiC_len _) (by rw [List.length_map, delE_len _ _ (by rw [HL.out]; exact hi), HL.out, hn1']) (by omega) h.cap.2 (Nat.zero_le _)
    have ht : (cs.take (i * 3)) = ((es.take i).map eiC).flatten := by
      rw [hcs, List.take_append_of_le_length (by rw [flatE_len, HL.out]; omega), flatE_take _ _ (by rw [HL.out]; omega)]
    have htl : ((es.take i).map eiC).flatten.length = i * 3 := by rw [flatE_len, List.length_take, HL.out, Nat.min_eq_left (by omega)]
    rw [hcs2, List.take_append_of_le_length (by rw [List.length_append, List.length_take, hl1]; omega), List.take_append_of_le_length (by rw [List.length_take, hl1]; omega), List.take_take, Nat.min_self, hcs1, ht, hdl]
    rw [List.take_append_of_le_length (by rw [List.length_append, htl, hdl]; omega), List.take_of_length_le (by rw [List.length_append, htl, hdl]; omega)]
    unfold delE
    rw [List.map_append, List.flatten_append, ← hj])
  have HKK := Lib.hid (show Keeps (Is q) W1 W2 by rw [hW2]; exact keeps_setRow _ _)
  have HK1 := Lib.hid (show Keeps (Is q) w.drew W1 by rw [hW1]; exact keeps_setRow _ _)
  have HN1 := Lib.hid hn1'
  clear hj hrow hrl h hn1 hn1' hcs hcs1 hcs2 hW1 hW2 hl1 hl2 hrow1 hdl
  go_enter Try.func36, Try.ntmps36
  go_upto_region 5 with fail
  refine wp_region_plan (Is q) [(0, false), (1, false), (2, false), (3, false), (4, false), (5, false), (6, true), (7, false)] (by kernel_rfl) (by kernel_rfl) ?_
  repeat (refine plan_take (by simp only [List.getElem?_toArray, List.getElem?_cons_succ, List.getElem?_cons_zero]; exact rfl) ?_; go_big_quiet_step (fail); refine wpQuiet_nil ?_)
  refine plan_solo (by simp only [List.getElem?_toArray, List.getElem?_cons_succ, List.getElem?_cons_zero]; exact rfl) ?_
  go_wp2_with (at_builtin; go_must (refine wpList_appendRun rfl (.tmp 22) (.tmp 25) rfl rfl rfl (fun ty => happ ty) ?_))
  refine Solo.mk HK1.out ?_
  repeat (refine plan_take (by simp only [List.getElem?_toArray, List.getElem?_cons_succ, List.getElem?_cons_zero]; exact rfl) ?_; go_big_quiet_step (fail); refine wpQuiet_nil ?_)
  refine plan_end ?_
  go_wp2
  go_ret
  exact ⟨n1, HN1, rfl, HOW.out, (Keeps.refl _ _).drew.trans (HK1.out.trans HKK.out)⟩
end Go.Proofs.Ytoaemkbdfinaoaa
