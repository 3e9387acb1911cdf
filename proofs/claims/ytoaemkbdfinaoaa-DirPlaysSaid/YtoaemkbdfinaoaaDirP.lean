/-
  Layer 11: Set, and the reference's Set and Get.
-/
import Derived.Test.YtoaemkbdfinaoaaDirO
namespace Go.Proofs.Ytoaemkbdfinaoaa
open Go.RowKit
set_option linter.unusedVariables false
set_option linter.unusedSimpArgs false

/-- A part of a row stored. -/
theorem run_storeRow {P : Program} {w : World} {g o : Nat} {t t' : TypeId} {cs vs : List Value} (hs : (P.info? t').map (·.size) = some vs.length) (h : Row w g t cs) (hl : o + vs.length ≤ cs.length) (h1 : ∀ v ∈ vs, v.oneCell' = true) :
    (Instr.storeAt t' (.pointer (some ⟨g, o, none⟩)) (.agg vs.toArray)).run P w = .ok () (w.setRow g (cs.take o ++ vs ++ cs.drop (o + vs.length)).toArray) := by
  obtain ⟨i, hi, hsz⟩ := Option.map_eq_some_iff.1 hs
  obtain ⟨fz, hh, hz⟩ := h
  have hst := run_storeCells_atM P g o t fz vs 0 cs.toArray w hh (by simpa using hz) (by simpa using hl) h1
  simp only [Nat.add_zero] at hst
  simp [Instr.storeAt, Instr.sureAddr, storeVar, sizeOf, typeInfo, hi, hsz, Value.cells, hst]
theorem wpList_storeRow {P : Program} {w : World} {ops : Array Oper} {rest : List Oper} {op : Oper} {a : Act} {Q : Exit → Act → World → Prop} (hgd : op.guard = none) (x y : Operand) {t' : TypeId} (ho : op.op = .store t' x y) (hd : op.dst = none)
    {g o : Nat} {t : TypeId} {cs : List Value} (vs : List Value) (hx : a.eval x = .pointer (some ⟨g, o, none⟩)) (hy : a.eval y = .agg vs.toArray) (hs : (P.info? t').map (·.size) = some vs.length) (h : Row w g t cs) (hl : o + vs.length ≤ cs.length) (h1 : ∀ v ∈ vs, v.oneCell' = true)
    (k : wpList P ops Q rest a (w.setRow g (cs.take o ++ vs ++ cs.drop (o + vs.length)).toArray)) : wpList P ops Q (op :: rest) a w := by
  refine wpList_plain hgd fun K hK => ?_
  unfold Oper.wp execOp
  simp only [ho, hx, hy, run_storeRow hs h hl h1, Sem.run_bind, Result.andThen_ok, Sem.run_pure]
  refine hK _ _ ?_
  rw [hd]
  exact k

def setE (es : List EntI) (s : List UInt8) (i g : Int) : List EntI × Int := if hasN es s = true then (es.set (posN es s) (s, i, g), 0) else (es, 9)
theorem srt_set {es : List EntI} {p : Nat} {x : EntI} (h : Srt es) (hx : es[p]? = some x) (i g : Int) : Srt (es.set p (x.1, i, g)) := by
  have key : ∀ (k : Nat) (a : EntI), (es.set p (x.1, i, g))[k]? = some a → ∃ b : EntI, es[k]? = some b ∧ b.1 = a.1 := by
    intro k a ha
    rw [List.getElem?_set] at ha
    by_cases hk : p = k
    · subst hk
      rw [if_pos rfl] at ha
      split at ha
      · injection ha with ha; subst ha; exact ⟨x, hx, rfl⟩
      · cases ha
    · rw [if_neg hk] at ha
      exact ⟨a, ha, rfl⟩
  intro k j a b ha hb hkj
  obtain ⟨a', ha', e1⟩ := key k a ha
  obtain ⟨b', hb', e2⟩ := key j b hb
  rw [← e1, ← e2]
  exact h k j a' b' ha' hb' hkj
theorem flat_set : ∀ (es : List EntI) (p : Nat) (x : EntI), es[p]? = some x → ∀ (i g : Int), ((es.map eiC).flatten).take (p * 3 + 1) ++ ([.int .i64 i, .int .i64 g] : List Value) ++ ((es.map eiC).flatten).drop (p * 3 + 1 + 2) = ((es.set p (x.1, i, g)).map eiC).flatten
  | [], p, x, h, i, g => by simp at h
  | e :: es, 0, x, h, i, g => by
    obtain rfl : e = x := by simpa using h
    simp [eiC]
  | e :: es, p + 1, x, h, i, g => by
    have ih := flat_set es p x (by simpa using h) i g
    rw [List.set_cons_succ, List.map_cons, List.map_cons, List.flatten_cons, List.flatten_cons, ← ih]
    rw [show (p + 1) * 3 + 1 = (eiC e).length + (p * 3 + 1) by simp [eiC]; omega, List.take_length_add_append, show (eiC e).length + (p * 3 + 1) + 2 = (eiC e).length + (p * 3 + 1 + 2) by omega, List.drop_length_add_append]
    simp [List.append_assoc]
/-- A row of entries with a handle stored. -/
theorem row_set {es : List EntI} {p : Nat} {x : EntI} (hx : es[p]? = some x) (tl : List Value) (i g : Int) :
    ((es.map eiC).flatten ++ tl).take (p * 3 + 1) ++ ([.int .i64 i, .int .i64 g] : List Value) ++ ((es.map eiC).flatten ++ tl).drop (p * 3 + 1 + 2) = ((es.set p (x.1, i, g)).map eiC).flatten ++ tl := by
  have hp := (List.getElem?_eq_some_iff.1 hx).1
  have hl := flatE_len es
  rw [List.take_append_of_le_length (by omega), List.drop_append_of_le_length (by omega), ← List.append_assoc, flat_set es p x hx i g]
theorem own_set {w : World} {base n c g : Nat} {es : List EntI} {p : Nat} {x : EntI} {tl : List Value} (hr : Row w g 42 ((es.map eiC).flatten ++ tl)) (hl : ((es.map eiC).flatten ++ tl).length = c * 3) (hx : es[p]? = some x) (i gg : Int) (hn : es.length = n) (hnc : n ≤ c) (hcm : c ≤ maxLen) (hb : base ≤ g) :
    OwR (w.setRow g (((es.map eiC).flatten ++ tl).take (p * 3 + 1) ++ ([.int .i64 i, .int .i64 gg] : List Value) ++ ((es.map eiC).flatten ++ tl).drop (p * 3 + 1 + 2)).toArray) base 42 3 (some ⟨g, 0, none⟩) n c ((es.set p (x.1, i, gg)).map eiC) := by
  rw [row_set hx]
  have hl2 : (((es.set p (x.1, i, gg)).map eiC).flatten ++ tl).length = ((es.map eiC).flatten ++ tl).length := by rw [List.length_append, List.length_append, flatE_len, flatE_len, List.length_set]
  refine OwR.ofRow (hr.setRow _ hl2) (by rw [hl2, hl]) ?_ (eiC_len _) (by simp [hn]) hnc hcm hb
  rw [List.take_append_of_le_length (by rw [flatE_len]; simp [hn]), List.take_of_length_le (by rw [flatE_len]; simp [hn])]

set_option maxHeartbeats 4000000 in
theorem dirSet_any (g : Nat) (A : Option Addr) (n c : Nat) (es : List EntI) (s : List UInt8) (ino gen : Int) (w : World) (h : Dr w g A n c es) (hn : n ≤ 1000) :
    Calls Try.prog 24 #[.pointer (some ⟨g, 0, none⟩), .string (st s), .agg #[.int .i64 ino, .int .i64 gen]] w (PutPost g A (setE es s ino gen).1 (setE es s ino gen).2 w) := by
  obtain ⟨W, hW⟩ : ∃ W, W = w.alloc (.cells #[.int .i64 ino, .int .i64 gen] 31) := ⟨_, rfl⟩
  have hB : Blk W w.heap.size 31 [.int .i64 ino, .int .i64 gen] := by rw [hW]; exact Blk.new w 31 [.int .i64 ino, .int .i64 gen]
  have hb : Below w.heap.size w W := by rw [hW]; exact (Below.refl _ _).alloc (Nat.le_refl _) _
  have HB := Lib.hid hB
  have Hb := Lib.hid hb
  have H := Lib.hid (h.up hb)
  have HW := Lib.hid hW
  have H0 := Lib.hid h
  obtain ⟨R, hR⟩ : ∃ R, R = setE es s ino gen := ⟨_, rfl⟩
  rw [← hR]
  have HRE := Lib.hid hR
  clear hB hb hW h hR
  go_enter Try.func24, Try.ntmps24
  go_upto_region 1 with fail
  rw [← HW.out]
  go_wp2_with fail
  refine (find_any g A n c es s _ H.out (by omega)).mono ?_
  rintro e w1 ⟨i, b, hi, hbn, rfl, hb1⟩
  have H1 := Lib.hid (H.out.up hb1)
  have HB1 := Lib.hid (HB.out.up hb1)
  have Hb1 := Lib.hid (Up.trans' Hb.out hb1)
  clear hb1
  rcases b with _ | _
  case false =>
    have HRR := Lib.hid (show R = (es, 9) by rw [HRE.out]; exact if_neg (by rw [← hbn.out]; simp))
    clear hi hbn
    go_wp2
    go_ret
    exact ⟨by rw [HRR.out]; rfl, by rw [HRR.out]; exact DrPost.same H0.out Hb1.out⟩
  case true =>
    obtain ⟨x, hx, hxs⟩ := has_at H1.out.s hbn.out.symm
    rw [← hi.out] at hx
    have HRR := Lib.hid (show R = (es.set i (x.1, ino, gen), 0) by rw [HRE.out]; unfold setE; rw [if_pos hbn.out.symm, ← hi.out, hxs])
    have hin : i < n := by have := H1.out.len; have h2 := (List.getElem?_eq_some_iff.1 hx).1; omega
    have i1 : (i : Int) < n := by omega
    have i0 : (0 : Int) ≤ i := by omega
    obtain ⟨q, tl, hA, _, hrow, hrl⟩ := H1.out.o.row (Nat.lt_of_lt_of_le (Nat.lt_of_le_of_lt (Nat.zero_le _) hin) H1.out.o.cap.1)
    subst hA
    have HX := Lib.hid hx
    have HROW := Lib.hid hrow.drew
    have HRL := Lib.hid hrl
    have hbnd : i * 3 + 1 + 2 ≤ ((es.map eiC).flatten ++ tl).length := by have := H1.out.o.cap.1; rw [hrl]; omega
    have hgq : g ≠ q := fun e => H1.out.ne (by rw [e]; rfl)
    have hbq : w.heap.size ≠ q := fun e => by have := H0.out.in_lt q rfl; omega
    have d0 := cell_abv (G := Is q) (H1.out.drew.b.cell 0 _ rfl) (fun e => hgq e)
    have k0 := cell_abv (G := Is q) (HB1.out.drew.cell 0 _ rfl) (fun e => hbq e)
    have k1 := cell_abv (G := Is q) (HB1.out.drew.cell 1 _ rfl) (fun e => hbq e)
    have HGQ := Lib.hid hgq
    clear hi hbn hx hxs hrow hrl hgq hbq
    go_upto_region 4 with fail
    refine wp_region_plan (Is q) [(0, false), (1, false), (2, false), (3, false), (4, false), (5, false), (6, false), (7, false), (8, true)] (by kernel_rfl) (by kernel_rfl) ?_
    repeat (refine plan_take (by simp only [List.getElem?_toArray, List.getElem?_cons_succ, List.getElem?_cons_zero]; exact rfl) ?_; go_big_quiet_step (fail); refine wpQuiet_nil ?_)
    refine plan_solo (by simp only [List.getElem?_toArray, List.getElem?_cons_succ, List.getElem?_cons_zero]; exact rfl) ?_
    clear d0 k0 k1
    go_wp2_with (refine wpList_storeRow rfl (.tmp 24) (.tmp 22) rfl rfl [.int .i64 ino, .int .i64 gen] rfl rfl (by kernel_rfl) HROW.out hbnd (by simp [Value.oneCell']) ?_)
    have HKS := Lib.hid (keeps_setRow w1.drew (g := q) (((es.map eiC).flatten ++ tl).take (i * 3 + 1) ++ ([.int .i64 ino, .int .i64 gen] : List Value) ++ ((es.map eiC).flatten ++ tl).drop (i * 3 + 1 + 2)).toArray)
    refine Solo.mk HKS.out ?_
    refine plan_end ?_
    have HO := Lib.hid (own_set (base := 0) HROW.out HRL.out HX.out ino gen H1.out.len H1.out.o.cap.1 H1.out.o.cap.2 (Nat.zero_le _))
    go_wp2
    go_ret
    refine ⟨by rw [HRR.out]; rfl, ?_⟩
    rw [HRR.out]
    refine ⟨_, n, c, ⟨H1.out.drew.b.keeps HKS.out (fun e => HGQ.out e), HO.out, srt_set H1.out.s HX.out ino gen⟩, (Keeps.of_below Hb1.out.drew).trans (HKS.out.mono (fun k _ e => .inr (by have e' : k = q := e; rw [e']; rfl))), .inl rfl⟩

set_option maxHeartbeats 4000000 in
theorem refSet_any (A : Option Addr) (n c : Nat) (es : List EntI) (s : List UInt8) (ino gen : Int) (w : World) (h : RdR w w.heap.size 3 A n (es.map eiC)) (hform : SlForm A n c) (hnc : n ≤ c) (hcm : c ≤ maxLen) (hn : n ≤ 1000) (hsr : Srt es) :
    Calls Try.prog 23 #[.slice A n c, .string (st s), .agg #[.int .i64 ino, .int .i64 gen]] w (ListPost A (setE es s ino gen).1 (setE es s ino gen).2 w) := by
  obtain ⟨W, hW⟩ : ∃ W, W = w.alloc (.cells #[.int .i64 ino, .int .i64 gen] 31) := ⟨_, rfl⟩
  have hB : Blk W w.heap.size 31 [.int .i64 ino, .int .i64 gen] := by rw [hW]; exact Blk.new w 31 [.int .i64 ino, .int .i64 gen]
  have hb : Below w.heap.size w W := by rw [hW]; exact (Below.refl _ _).alloc (Nat.le_refl _) _
  have HB := Lib.hid hB
  have Hb := Lib.hid hb
  have H := Lib.hid ((h.below hb).more hb.size)
  have HW := Lib.hid hW
  have HL := Lib.hid (show es.length = n by have := h.len; simpa using this)
  obtain ⟨R, hR⟩ : ∃ R, R = setE es s ino gen := ⟨_, rfl⟩
  rw [← hR]
  have HRE := Lib.hid hR
  have HCM := Lib.hid hcm
  unfold maxLen at hcm
  clear hB hb hW h hR
  go_enter Try.func23, Try.ntmps23
  go_upto_region 1 with fail
  rw [← HW.out]
  go_wp2_with fail
  refine (refFind_any A n c es s _ H.out (by omega)).mono ?_
  rintro e w1 ⟨r, rfl, rfl, hf⟩
  rcases hf with ⟨i, x, rfl, hil, hx, hxs⟩ | ⟨rfl, hno⟩
  · have HRR := Lib.hid (show R = (es.set i (x.1, ino, gen), 0) by rw [HRE.out]; unfold setE; rw [if_pos (has_of_find hx hxs), ← find_pos hsr hx hxs, hxs])
    have i0 : (0 : Int) ≤ i := by omega
    have hin : i < n := by have := HL.out; omega
    have i1 : (i : Int) < n := by omega
    have HX := Lib.hid hx
    have HF := Lib.hid (H.out.src (P := Try.prog) (c := c) (by omega) 25 42 Try.underlying25 (fun r hr => by obtain ⟨e, _, rfl⟩ := List.mem_map.1 hr; exact eiC_one e))
    clear hx hxs hil
    go_upto_region 6 with (at_builtin; go_must (refine wpList_appendEs entsElem rfl (.tmp 16) (.tmp 17) 25 rfl W.heap.size none 0 0 [] rfl (OwR.nil _ _ _ _) _ rfl n es HL.out HF.out (by omega) (by omega) (by omega) ?_); intro A3 n3 c3 w3 hn3 hown3 hg3 hf3 hb3; simp only [Act.put, List.setIfInBounds_toArray, List.set_cons_succ, List.set_cons_zero])
    have HB3 := Lib.hid (HB.out.up hb3)
    have k0 := HB3.out.cell 0 _ rfl
    have k1 := HB3.out.cell 1 _ rfl
    rw [List.nil_append] at hown3
    have hn3' : n3 = n := by have := hn3.out; omega
    subst hn3'
    obtain ⟨q, tl, hA, hqb, hrow, hrl⟩ := hown3.row (Nat.lt_of_lt_of_le (Nat.lt_of_le_of_lt (Nat.zero_le _) hin) hown3.cap.1)
    subst hA
    have HROW := Lib.hid hrow
    have HRL := Lib.hid hrl
    have HO3 := Lib.hid hown3
    have Hb3 := Lib.hid (Up.trans' Hb.out hb3)
    have HQ := Lib.hid hqb
    have hbnd : i * 3 + 1 + 2 ≤ ((es.map eiC).flatten ++ tl).length := by have := hown3.cap.1; rw [hrl]; omega
    clear hown3 hg3 hf3 hb3 hn3 hrow hrl hqb
    go_wp2_with (refine wpList_storeRow rfl (.tmp 23) (.tmp 21) rfl rfl [.int .i64 ino, .int .i64 gen] rfl rfl (by kernel_rfl) HROW.out hbnd (by simp [Value.oneCell']) ?_)
    have HO := Lib.hid (own_set (base := W.heap.size) HROW.out HRL.out HX.out ino gen HL.out HO3.out.cap.1 HO3.out.cap.2 HQ.out)
    go_wp2
    go_ret2
    exact ⟨_, _, _, by rw [HRR.out]; rfl, by rw [HRR.out]; exact HO.out.rd, .inr ⟨_, rfl⟩, HO.out.cap.1, HO.out.cap.2, .inr (fun b hb => ⟨Nat.le_trans Hb.out.size (HO.out.inB b hb).1, (HO.out.inB b hb).2⟩), below_setRow Hb3.out (Nat.le_trans Hb.out.size HQ.out) _⟩
  · have HRR := Lib.hid (show R = (es, 9) by rw [HRE.out]; exact if_neg (by rw [hno]; simp))
    clear hno
    go_wp2
    go_ret2
    exact ⟨A, n, c, by rw [HRR.out]; rfl, by rw [HRR.out]; exact H.out, hform, hnc, HCM.out, .inl rfl, Hb.out⟩

set_option maxHeartbeats 4000000 in
theorem refGet_any (A : Option Addr) (n c : Nat) (es : List EntI) (s : List UInt8) (w : World) (h : RdR w w.heap.size 3 A n (es.map eiC)) (hn : n ≤ 1000) (hsr : Srt es) :
    Calls Try.prog 25 #[.slice A n c, .string (st s)] w (GetPost es s w) := by
  obtain ⟨W, hW⟩ : ∃ W, W = w.alloc (.cells #[.int .i64 0, .int .i64 0] 31) := ⟨_, rfl⟩
  have hB : Blk W w.heap.size 31 [.int .i64 0, .int .i64 0] := by rw [hW]; exact Blk.new w 31 [.int .i64 0, .int .i64 0]
  have hb : Below w.heap.size w W := by rw [hW]; exact (Below.refl _ _).alloc (Nat.le_refl _) _
  have HB := Lib.hid hB
  have Hb := Lib.hid hb
  have H := Lib.hid ((h.below hb).more hb.size)
  have HW := Lib.hid hW
  have HL := Lib.hid (show es.length = n by have := h.len; simpa using this)
  clear hB hb hW h
  go_enter Try.func25, Try.ntmps25
  go_upto_region 1 with fail
  rw [← HW.out]
  go_wp2_with fail
  refine (refFind_any A n c es s _ H.out (by omega)).mono ?_
  rintro e w1 ⟨r, rfl, rfl, hf⟩
  rcases hf with ⟨i, x, rfl, hil, hx, hxs⟩ | ⟨rfl, hno⟩
  · have HR := Lib.hid (getE_at hsr hx hxs)
    have hin : i < n := by have := HL.out; omega
    have i1 : (i : Int) < n := by omega
    have i0 : (0 : Int) ≤ i := by omega
    obtain ⟨bk, off, r, hA, hbl, hr, _, hc⟩ := H.out.at_ hin
    subst hA
    rw [List.getElem?_map, hx] at hr
    obtain rfl : r = eiC x := by simpa using hr.symm
    have d1 := hc 1 _ rfl
    have d2 := hc 2 _ rfl
    obtain ⟨xn, xi, xg⟩ := x
    clear hx hxs hr hc hbl hil
    go_upto_region 4 with fail
    go_wp2_with (refine wpList_storeBlk rfl (.tmp 4) (.tmp 17) rfl rfl [.int .i64 xi, .int .i64 xg] rfl rfl (by kernel_rfl) HB.out rfl (by simp [Value.oneCell']) ?_)
    have hF := HB.out.setRow [.int .i64 xi, .int .i64 xg]
    have z0 := hF.cell 0 _ rfl
    have z1 := hF.cell 1 _ rfl
    go_wp2
    exact bodyPost_ret (v := .tuple #[.agg #[.int .i64 xi, .int .i64 xg], .int .i64 0]) (by simp [results, Try.results25, go_sem, z0, z1]) rfl ⟨xi, xg, 0, HR, rfl, below_setRow Hb.out (Nat.le_refl _) _⟩
  · have HR := Lib.hid (getE_no hno)
    clear hno
    go_upto_region 3 with fail
    go_wp2_with (refine wpList_storeBlk rfl (.tmp 4) (.tmp 12) rfl rfl [.int .i64 0, .int .i64 0] rfl rfl (by kernel_rfl) HB.out rfl (by simp [Value.oneCell']) ?_)
    have hF := HB.out.setRow [.int .i64 0, .int .i64 0]
    have z0 := hF.cell 0 _ rfl
    have z1 := hF.cell 1 _ rfl
    go_wp2
    exact bodyPost_ret (v := .tuple #[.agg #[.int .i64 0, .int .i64 0], .int .i64 9]) (by simp [results, Try.results25, go_sem, z0, z1]) rfl ⟨0, 0, 9, HR, rfl, below_setRow Hb.out (Nat.le_refl _) _⟩
end Go.Proofs.Ytoaemkbdfinaoaa
