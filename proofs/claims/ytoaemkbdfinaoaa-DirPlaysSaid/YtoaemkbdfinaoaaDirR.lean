/-
  Layer 11: Drop, Clear, the reference's Drop, Page and Text.
-/
import Derived.Test.YtoaemkbdfinaoaaDirQ
namespace Go.Proofs.Ytoaemkbdfinaoaa
open Go.RowKit
set_option linter.unusedVariables false
set_option linter.unusedSimpArgs false

def dropE (es : List EntI) (s : List UInt8) : List EntI × Int := if hasN es s = true then (delE es (posN es s), 0) else (es, 9)
theorem delE_at (es : List EntI) (i k : Nat) : (delE es i)[k]? = if k < i then es[k]? else es[k + 1]? := by
  unfold delE; rw [← List.eraseIdx_eq_take_drop_succ, List.getElem?_eraseIdx]
theorem srt_del {es : List EntI} (h : Srt es) (i : Nat) : Srt (delE es i) := by
  intro k j a b ha hb hkj
  rw [delE_at] at ha hb
  split at ha <;> split at hb <;> exact h _ _ a b ha hb (by omega)

set_option maxHeartbeats 4000000 in
theorem drop_any (g : Nat) (A : Option Addr) (n c : Nat) (es : List EntI) (s : List UInt8) (w : World) (h : Dr w g A n c es) (hn : n ≤ 1000) :
    Calls Try.prog 27 #[.pointer (some ⟨g, 0, none⟩), .string (st s)] w (PutPost g A (dropE es s).1 (dropE es s).2 w) := by
  have H := Lib.hid h
  obtain ⟨R, hR⟩ : ∃ R, R = dropE es s := ⟨_, rfl⟩
  rw [← hR]
  have HRE := Lib.hid hR
  clear h hR
  go_enter Try.func27, Try.ntmps27
  go_wp2_with fail
  refine (find_any g A n c es s _ H.out (by omega)).mono ?_
  rintro e w1 ⟨i, b, hi, hbn, rfl, hb1⟩
  have H1 := Lib.hid (H.out.up hb1)
  have Hb1 := Lib.hid hb1
  clear hb1
  rcases b with _ | _
  case false =>
    have HRR := Lib.hid (show R = (es, 9) by rw [HRE.out]; exact if_neg (by rw [← hbn.out]; simp))
    clear hi hbn
    go_wp2
    go_ret
    exact ⟨by rw [HRR.out]; rfl, by rw [HRR.out]; exact DrPost.same H.out Hb1.out⟩
  case true =>
    obtain ⟨x, hx, hxs⟩ := has_at H1.out.s hbn.out.symm
    rw [← hi.out] at hx
    have HRR := Lib.hid (show R = (delE es i, 0) by rw [HRE.out]; unfold dropE; rw [if_pos hbn.out.symm, ← hi.out])
    have hin : i < n := by have := H1.out.len; have h2 := (List.getElem?_eq_some_iff.1 hx).1; omega
    have i0 : (0 : Int) ≤ i := by omega
    have i9 : (i : Int) ≤ 1000 := by omega
    obtain ⟨q, tl, hA, _, _, _⟩ := H1.out.o.row (Nat.lt_of_lt_of_le (Nat.lt_of_le_of_lt (Nat.zero_le _) hin) H1.out.o.cap.1)
    subst hA
    have d0 := H1.out.b.cell 0 _ rfl
    have hdel := delete_any q n c i es w1 H1.out.o hin hn
    rw [show ((i + 1 : Nat) : Int) = (i : Int) + 1 by omega] at hdel
    have HDEL := Lib.hid hdel
    clear hi hbn hx hxs hdel
    go_wp2_with fail
    refine HDEL.out.mono ?_
    rintro e w2 ⟨n', hn', rfl, ho2, hk2⟩
    have hb2 := H1.out.b.keeps hk2 (fun e => H1.out.ne (by rw [e]; rfl))
    have x0 := hb2.cell 0 _ rfl
    have f0 := hb2.free 0
    have HB2 := Lib.hid hb2
    have HO2 := Lib.hid ho2
    have HK2 := Lib.hid hk2
    clear hb2 ho2 hk2
    go_wp2
    go_ret
    refine ⟨by rw [HRR.out]; rfl, ?_⟩
    rw [HRR.out]
    have hks : Keeps (Is g) w2 (w2.setCell ⟨g, 0, none⟩ (.slice (some ⟨q, 0, none⟩) n' c)) := (Keeps.refl (Is g) _).setCell (p := ⟨g, 0, none⟩) (.inl rfl) _
    refine ⟨_, n', c, ⟨HB2.out.set 0 _, Own.keepGI HO2.out hks (fun b hb e => HO2.out.ne HB2.out (by decide) (by have e' : b = g := e; rw [← e']; exact hb)), srt_del H1.out.s i⟩, ?_, .inl rfl⟩
    exact (Keeps.of_below Hb1.out).trans ((HK2.out.mono (fun k _ e => .inr (by have e' : k = q := e; rw [e']; rfl))).trans (hks.mono (fun k _ e => .inl e)))

theorem wpList_clearRun {P : Program} {w w' : World} {ops : Array Oper} {rest : List Oper} {oo : Oper} {a : Act} {Q : Exit → Act → World → Prop} (hgd : oo.guard = none) (hd : oo.dst = none) (s : Operand) {t : TypeId} (ho : oo.op = .call { callee := .builtin .clear, args := #[s], argTypes := #[t] })
    {sv : Value} (hs : a.eval s = sv) (hr : ∀ ty, (Builtin.clear_ #[t] ty #[sv]).run P w = .ok (.tuple #[]) w')
    (kk : wpList P ops Q rest a w') : wpList P ops Q (oo :: rest) a w := by
  refine wpList_plain hgd fun K hK => ?_
  unfold Oper.wp execOp
  simp only [ho, resolve, invoke, builtin, Sem.run_bind, Sem.run_pure, Result.andThen_ok, List.map_toArray, List.map_cons, List.map_nil, hs, hr]
  refine hK _ _ ?_
  rw [hd]
  exact kk
theorem clear_empty {P : Program} (w : World) (A : Option Addr) (c : Nat) {t e ty : TypeId} (ht : P.underlying t = some (.slice e)) : (Builtin.clear_ #[t] ty #[.slice A 0 c]).run P w = .ok (.tuple #[]) w := by
  cases A <;> simp [Builtin.clear_, run_underlying ht]

set_option maxHeartbeats 4000000 in
theorem clear_any (g : Nat) (A : Option Addr) (n c : Nat) (es : List EntI) (w : World) (h : Dr w g A n c es) (hn : n ≤ 1000) :
    Calls Try.prog 29 #[.pointer (some ⟨g, 0, none⟩)] w fun x w' => x = .returned (.tuple #[]) ∧ DrPost g A [] w w' := by
  obtain ⟨W, HK, HO, HCL, HC⟩ : ∃ W, Hid (Keeps (DrG g A) w W) ∧ Hid (OwR W 0 42 3 A 0 c []) ∧ (∀ ty, (Builtin.clear_ #[25] ty #[.slice A n c]).run Try.prog w = .ok (.tuple #[]) W) ∧ Hid (Blk W g 65 [.slice A n c]) := by
    rcases Nat.eq_zero_or_pos n with h0 | hp
    · subst h0
      have hes : es = [] := List.length_eq_zero_iff.1 h.len
      subst hes
      exact ⟨w, Lib.hid (Keeps.refl _ _), Lib.hid h.o, fun ty => clear_empty w A c Try.underlying25, Lib.hid h.b⟩
    · obtain ⟨q, tl, hA, _, hrow, hrl⟩ := h.o.row (Nat.lt_of_lt_of_le hp h.o.cap.1)
      subst hA
      have hnc := h.o.cap.1
      have hcl := fun ty => run_clearRow (P := Try.prog) (w := w) 25 42 ty (.agg #[.string ByteArray.empty, .int .i64 0, .int .i64 0]) Try.underlying25 zeroE (by simp [Value.cells, Value.oneCell']) q 0 n c hp _ hrow (by rw [hrl]; simp [Value.cells]; omega)
      have hks : Keeps (Is q) w (w.setRow q ((((es.map eiC).flatten ++ tl).take 0 ++ (Builtin.zeroCells (Value.agg #[.string ByteArray.empty, .int .i64 0, .int .i64 0]).cells n).toList ++ ((es.map eiC).flatten ++ tl).drop (0 + n * 3)).toArray)) := keeps_setRow _ _
      have hl2 : (((es.map eiC).flatten ++ tl).take 0 ++ (Builtin.zeroCells (Value.agg #[.string ByteArray.empty, .int .i64 0, .int .i64 0]).cells n).toList ++ ((es.map eiC).flatten ++ tl).drop (0 + n * 3)).length = ((es.map eiC).flatten ++ tl).length := by
        rw [List.length_append, List.length_append, List.length_drop, zeroCells_len, hrl]; simp [Value.cells]; omega
      refine ⟨_, Lib.hid (hks.mono (fun k _ e => .inr (by have e' : k = q := e; rw [e']; rfl))), Lib.hid ?_, hcl, Lib.hid (h.b.keeps hks (fun e => h.ne (by rw [e]; rfl)))⟩
      exact OwR.ofRow (hrow.setRow _ hl2) (by rw [hl2, hrl]) (by simp) (by simp) rfl (Nat.zero_le _) h.o.cap.2 (Nat.zero_le _)
  have d0 := h.b.cell 0 _ rfl
  have x0 := HC.out.cell 0 _ rfl
  have f0 := HC.out.free 0
  have c0 : (0 : Int) ≤ c := by omega
  have H := Lib.hid h
  clear h
  go_enter Try.func29, Try.ntmps29
  go_wp2_with (at_builtin; go_must (refine wpList_clearRun rfl rfl (.tmp 5) rfl rfl (fun ty => HCL ty) ?_))
  go_end0
  refine ⟨rfl, ?_⟩
  have hks : Keeps (Is g) W (W.setCell ⟨g, 0, none⟩ (.slice A 0 c)) := (Keeps.refl (Is g) _).setCell (p := ⟨g, 0, none⟩) (.inl rfl) _
  refine ⟨A, 0, c, ⟨HC.out.set 0 _, Own.keepGI HO.out hks (fun b hb e => HO.out.ne HC.out (by decide) (by have e' : b = g := e; rw [← e']; exact hb)), fun i j a b ha _ _ => by simp at ha⟩, HK.out.trans (hks.mono (fun k _ e => .inl e)), .inl rfl⟩

set_option maxHeartbeats 4000000 in
theorem refDrop_any (A : Option Addr) (n c : Nat) (es : List EntI) (s : List UInt8) (w : World) (h : RdR w w.heap.size 3 A n (es.map eiC)) (hform : SlForm A n c) (hnc : n ≤ c) (hcm : c ≤ maxLen) (hn : n ≤ 1000) (hsr : Srt es) :
    Calls Try.prog 26 #[.slice A n c, .string (st s)] w (ListPost A (dropE es s).1 (dropE es s).2 w) := by
  have H := Lib.hid h
  have HL := Lib.hid (show es.length = n by have := h.len; simpa using this)
  obtain ⟨R, hR⟩ : ∃ R, R = dropE es s := ⟨_, rfl⟩
  rw [← hR]
  have HRE := Lib.hid hR
  have HCM := Lib.hid hcm
  unfold maxLen at hcm
  clear h hR
  go_enter Try.func26, Try.ntmps26
  go_wp2_with fail
  refine (refFind_any A n c es s _ H.out (by omega)).mono ?_
  rintro e w1 ⟨r, rfl, rfl, hf⟩
  rcases hf with ⟨i, x, rfl, hil, hx, hxs⟩ | ⟨rfl, hno⟩
  · have HRR := Lib.hid (show R = (delE es i, 0) by rw [HRE.out]; unfold dropE; rw [if_pos (has_of_find hx hxs), ← find_pos hsr hx hxs])
    have i0 : (0 : Int) ≤ i := by omega
    have hin : i < n := by have := HL.out; omega
    obtain ⟨b, hA⟩ : ∃ b, A = some ⟨b, 0, none⟩ := by
      rcases hform with ⟨_, h2, _⟩ | h2
      · omega
      · exact h2
    subst hA
    obtain ⟨j, hj⟩ : ∃ j, j = i + 1 := ⟨_, rfl⟩
    have HJ := Lib.hid hj
    have ej : (i : Int) + 1 = (j : Int) := by omega
    have jn : (j : Int) ≤ n := by omega
    have jc : (j : Int) ≤ c := by omega
    have ic : (i : Int) ≤ c := by omega
    have j0 : (0 : Int) ≤ j := Int.natCast_nonneg j
    have hjn : j ≤ n := by omega
    obtain ⟨X, hX⟩ : ∃ X : Option Addr, (if c = j then some ⟨b, 0, none⟩ else some ⟨b, j * 3, none⟩) = X := ⟨_, rfl⟩
    have one : ∀ (l : List EntI), ∀ r ∈ l.map eiC, ∀ v ∈ r, v.oneCell' = true := fun l r hr => by obtain ⟨e, _, rfl⟩ := List.mem_map.1 hr; exact eiC_one e
    have Hs1 := Lib.hid (show Src Try.prog w 25 3 (.slice (some ⟨b, 0, none⟩) i c) i ((es.take i).map eiC).flatten by
      have h1 := H.out.firstS (show i ≤ n by omega)
      rw [← List.map_take] at h1
      exact h1.src (P := Try.prog) (c := c) (by omega) 25 42 Try.underlying25 (one _))
    have HSS := Lib.hid (show ∀ (W : World), Below w.heap.size w W → Src Try.prog W 25 3 (.slice X (n - j) (c - j)) (n - j) ((es.drop j).map eiC).flatten from fun W hW => by
      by_cases hM : n - j = 0
      · have : es.drop j = [] := List.length_eq_zero_iff.1 (by rw [List.length_drop, HL.out, hM])
        rw [this, hM]
        exact src_none W X (c - j) _ _ Try.underlying25
      · have hcj : ¬ c = j := by omega
        have hcut := (H.out.below hW).cut (show j ≤ n by omega) hnc
        rw [if_neg hcj, Option.map_some, add_plain, Nat.zero_add, ← List.map_drop] at hcut
        rw [← hX, if_neg hcj]
        exact hcut.src (P := Try.prog) (c := c - j) (by omega) 25 42 Try.underlying25 (one _))
    have HDL := Lib.hid (show (es.drop j).length = n - j by rw [List.length_drop, HL.out])
    have HIL := Lib.hid (show (es.take i).length = i by rw [List.length_take, HL.out, Nat.min_eq_left (by omega)])
    have HIN := Lib.hid (show es.take i ++ es.drop j = delE es i by rw [hj]; rfl)
    clear hx hxs hil one hform hj
    go_upto_region 6 with (at_builtin; go_must (refine wpList_appendEs entsElem rfl (.tmp 14) (.tmp 17) 25 rfl w.heap.size none 0 0 [] rfl (OwR.nil _ _ _ _) _ rfl i (es.take i) HIL.out Hs1.out (by omega) (by omega) (by omega) ?_); intro A3 n3 c3 w3 hn3 hown3 hg3 hf3 hb3; simp only [Act.put, List.setIfInBounds_toArray, List.set_cons_succ, List.set_cons_zero])
    have HO3 := Lib.hid hown3
    have HB3 := Lib.hid hb3
    have hn3' := hn3.out
    have hz3 : w.heap.size ≤ w3.heap.size := hb3.size
    clear hown3 hg3 hf3 hb3 hn3
    go_wp2_with (at_builtin; go_must (refine wpList_appendEs entsElem rfl (.tmp 19) (.tmp 23) 25 rfl w.heap.size A3 n3 c3 (es.take i) rfl HO3.out _ rfl (n - j) (es.drop j) HDL.out (HSS.out _ HB3.out) (by omega) (by omega) hz3 ?_); intro A5 n5 c5 w5 hn5 hown5 hg5 hf5 hb5)
    have HO5 := Lib.hid hown5
    have HB5 := Lib.hid (HB3.out.trans hb5)
    clear hown5 hg5 hf5 hb5 hn5
    go_wp2
    go_ret2
    exact ⟨A5, n5, c5, by rw [HRR.out]; rfl, by rw [HRR.out]; show RdR _ _ _ _ _ ((delE es i).map eiC); rw [← HIN.out]; exact HO5.out.rd, HO5.out.form, HO5.out.cap.1, HO5.out.cap.2, .inr (fun b hb => HO5.out.inB b hb), HB5.out⟩
  · have HRR := Lib.hid (show R = (es, 9) by rw [HRE.out]; exact if_neg (by rw [hno]; simp))
    clear hno
    go_wp2
    go_ret2
    exact ⟨A, n, c, by rw [HRR.out]; rfl, by rw [HRR.out]; exact H.out, hform, hnc, HCM.out, .inl rfl, Below.refl _ _⟩

def PgJ (es : List EntI) (f m n : Nat) (w : World) (x y : Value) (wr : World) : Prop :=
  ∃ (i : Nat) (A' : Option Addr) (n' c' : Nat), x = .slice A' n' c' ∧ y = .int .i64 i ∧ f ≤ i ∧ i ≤ n ∧ n' ≤ m ∧ n' = i - f ∧ OwR wr w.heap.size 42 3 A' n' c' (((es.drop f).take (i - f)).map eiC) ∧ Below w.heap.size w wr
set_option maxHeartbeats 4000000 in
theorem refPage_any (A : Option Addr) (n c : Nat) (es : List EntI) (from_ most : Int) (w : World) (h : RdR w w.heap.size 3 A n (es.map eiC)) (hn : n ≤ 1000) :
    Calls Try.prog 28 #[.slice A n c, .int .i64 from_, .int .i64 most] w (PagePost es from_ most w) := by
  have H := Lib.hid h
  have HL := Lib.hid (show es.length = n by have := h.len; simpa using this)
  by_cases hbad : from_ < 0 ∨ (n : Int) < from_
  · have HP := Lib.hid (show pageE es from_ most = ([], false, 20) by unfold pageE; rw [HL.out, if_pos hbad])
    clear h
    rcases (show from_ < 0 ∨ (¬ from_ < 0 ∧ (n : Int) < from_) by omega) with h1 | ⟨h1, h2⟩
    all_goals
      clear hbad
      go_enter Try.func28, Try.ntmps28
      go_wp2
      refine bodyPost_ret (results_tmp3 rfl _ _ _) rfl ?_
      exact ⟨none, 0, 0, by rw [HP.out]; rfl, by rw [HP.out]; exact OwR.nil _ _ _ _, Below.refl _ _⟩
  · obtain ⟨f, rfl⟩ : ∃ f : Nat, from_ = f := ⟨from_.toNat, by omega⟩
    have hfn : f ≤ n := by omega
    have h1 : ¬ (f : Int) < 0 := by omega
    have h2 : ¬ (n : Int) < f := by omega
    have f0 : (0 : Int) ≤ f := by omega
    obtain ⟨m, hm⟩ : ∃ m, m = most.toNat := ⟨_, rfl⟩
    have HM := Lib.hid hm
    have HP := Lib.hid (show pageE es f most = ((es.drop f).take m, decide ((f : Int) + ((es.drop f).take m).length = n), 0) by unfold pageE; rw [HL.out, if_neg (by omega), hm]; rfl)
    clear h hm hbad
    go_enter Try.func28, Try.ntmps28
    go_wp2
    go_loopw [9, 10] (fun x y wr => PgJ es f m n w x y wr) (fun x y _ => n - (intOf y).toNat)
    case atStart => exact ⟨f, none, 0, 0, rfl, rfl, Nat.le_refl _, hfn, Nat.zero_le _, by omega, by rw [Nat.sub_self]; exact OwR.nil _ _ _ _, Below.refl _ _⟩
    case round =>
      obtain ⟨i, A', n', c', rfl, rfl, hfi, hin, hnm, hni, hown, hbw⟩ := hrel
      have HO := Lib.hid hown
      have HB := Lib.hid hbw
      have HNI := Lib.hid hni
      have hn9 : n' ≤ 1000 := by omega
      have hnc' : (n' : Int) ≤ 1000 := by omega
      clear hown hbw hni
      by_cases hgo : i < n ∧ n' < m
      · have j1 : (i : Int) < n := by omega
        have j0 : (0 : Int) ≤ i := by omega
        have j2 : (n' : Int) < most := by have := HM.out; omega
        obtain ⟨b, off, r, hA, hbl, hr, _, hc⟩ := (H.out.below HB.out).at_ hgo.1
        subst hA
        obtain ⟨x, hx⟩ : ∃ x, es[i]? = some x := ⟨_, List.getElem?_eq_getElem (by rw [HL.out]; exact hgo.1)⟩
        rw [List.getElem?_map, hx] at hr
        obtain rfl : r = eiC x := by simpa using hr.symm
        have d0 := hc 0 _ rfl
        have d1 := hc 1 _ rfl
        have d2 := hc 2 _ rfl
        simp only [Nat.add_zero] at d0
        have HNX := Lib.hid (show (es.drop f).take (i + 1 - f) = (es.drop f).take (i - f) ++ [x] by
          rw [show i + 1 - f = i - f + 1 by omega, List.take_add_one, List.getElem?_drop, show f + (i - f) = i by omega, hx]; rfl)
        have HGO := Lib.hid hgo
        have Hsrc := Lib.hid (Src.oneR (P := Try.prog) wr 25 42 Try.underlying25 (eiC x) rfl (eiC_one x) #[.string (st x.1), .int .i64 x.2.1, .int .i64 x.2.2] rfl 42)
        have hz : w.heap.size ≤ (wr.alloc (.cells #[.string (st x.1), .int .i64 x.2.1, .int .i64 x.2.2] 42)).heap.size := by have := HB.out.size; simp; omega
        have HBA := Lib.hid (HB.out.alloc HB.out.size (.cells #[.string (st x.1), .int .i64 x.2.1, .int .i64 x.2.2] 42))
        clear hr hx hc hbl hgo
        go_wp2_with (at_builtin; go_must (refine wpList_appendEs entsElem rfl (.tmp 32) (.tmp 37) 25 rfl w.heap.size A' n' c' ((es.drop f).take (i - f)) rfl (HO.out.alloc _) _ rfl 1 [x] rfl Hsrc.out (by omega) (by omega) hz ?_); intro A3 n3 c3 w3 hn3 hown3 hg3 hf3 hb3)
        have HO3 := Lib.hid hown3
        have HB3 := Lib.hid (HBA.out.trans hb3)
        have hn3' := hn3.out
        clear hown3 hg3 hf3 hb3 hn3
        go_wp2
        go_roundw
        case rel => exact ⟨i + 1, A3, n3, c3, rfl, by go_num, by omega, by have := HGO.out; omega, by have := HGO.out; omega, by have := HNI.out; omega, by rw [HNX.out]; exact HO3.out, HB3.out⟩
        case measure => have := HGO.out.1; simp [intOf]; omega
      · have HE := Lib.hid (show (es.drop f).take (i - f) = (es.drop f).take m by
          have h3 := HNI.out
          rcases Nat.lt_or_ge i n with h4 | h4
          · rw [show m = i - f by omega]
          · rw [List.take_of_length_le (by rw [List.length_drop, HL.out]; omega), List.take_of_length_le (by rw [List.length_drop, HL.out]; omega)])
        have HLE := Lib.hid (show ((es.drop f).take m).length = n' by have := HO.out.len; rw [List.length_map, HE.out] at this; exact this)
        have hwr : IntKind.i64.wrap ((f : Int) + n') = f + n' := IntWalk.i64_in _ (by omega)
        have hstop : ¬ (i : Int) < n ∨ ((i : Int) < n ∧ ¬ (n' : Int) < most) := by
          rcases Nat.lt_or_ge i n with h4 | h4
          · exact .inr ⟨by omega, by have := HM.out; omega⟩
          · exact .inl (by omega)
        obtain ⟨b, hb⟩ : ∃ b : Bool, ((f : Int) + n' == n) = b := ⟨_, rfl⟩
        have HBB := Lib.hid hb
        clear hgo
        rcases hstop with h4 | ⟨h4, h5⟩
        all_goals
          go_wp2
          refine bodyPost_ret (results_tmp3 rfl _ _ _) rfl ?_
          refine ⟨A', n', c', ?_, ?_, HB.out⟩
          · rw [HP.out, HLE.out, ← HBB.out]
            have hbd : ((f : Int) + n' == n) = decide ((f : Int) + n' = n) := by by_cases e : (f : Int) + n' = n <;> simp [e]
            rw [hbd]; rfl
          · rw [HP.out, ← HE.out]; exact HO.out

set_option maxHeartbeats 4000000 in
theorem text_any (dd n : Int) (s : List UInt8) (hi hg fr mo : Int) (w : World) (hs : s.length ≤ 9223372036854775807) (h0 : -9223372036854775808 ≤ n) (h1 : n ≤ 9223372036854775807) :
    Calls Try.prog 22 #[.agg #[.int .i64 dd, .int .i64 n, .string (st s), .int .i64 hi, .int .i64 hg, .int .i64 fr, .int .i64 mo]] w fun e w' => ∃ t : List UInt8, t.length ≤ 40 ∧ e = .returned (.string (st t)) ∧ Below w.heap.size w w' := by
  obtain ⟨W, hW⟩ : ∃ W, W = w.alloc (.cells #[.int .i64 dd, .int .i64 n, .string (st s), .int .i64 hi, .int .i64 hg, .int .i64 fr, .int .i64 mo] 56) := ⟨_, rfl⟩
  have hB : Blk W w.heap.size 56 [.int .i64 dd, .int .i64 n, .string (st s), .int .i64 hi, .int .i64 hg, .int .i64 fr, .int .i64 mo] := by rw [hW]; exact Blk.new w _ [.int .i64 dd, .int .i64 n, .string (st s), .int .i64 hi, .int .i64 hg, .int .i64 fr, .int .i64 mo]
  have hb : Below w.heap.size w W := by rw [hW]; exact (Below.refl _ _).alloc (Nat.le_refl _) _
  have b1 := hB.cell 1 _ rfl
  have b2 := hB.cell 2 _ rfl
  have b5 := hB.cell 5 _ rfl
  have HW := Lib.hid hW
  have HB := Lib.hid hB
  have Hb := Lib.hid hb
  clear hW hB hb
  go_enter Try.func22, Try.ntmps22
  go_upto_region 1 with fail
  rw [← HW.out]
  by_cases hm : Int.tmod fr 7 = 6
  · have t1 : (Int.tmod fr 7 == 6) = true := by rw [hm]; rfl
    clear hm
    by_cases hlen : 40 < s.length
    · have t2 : (40 : Int) < s.length := by omega
      have hx := st_first s 40
      obtain ⟨q, hq⟩ : ∃ q, q = s.take 40 := ⟨_, rfl⟩
      rw [← hq] at hx
      have HQ := Lib.hid (show q.length ≤ 40 by rw [hq, List.length_take]; omega)
      clear hq
      go_wp2
      go_ret
      exact ⟨q, HQ.out, rfl, Hb.out⟩
    · have t2 : ¬ (40 : Int) < s.length := by omega
      go_wp2
      go_ret
      exact ⟨s, by omega, rfl, Hb.out⟩
  · have t1 : (Int.tmod fr 7 == 6) = false := by rw [beq_eq_false_iff_ne]; exact hm
    clear hm
    go_wp2_with fail
    refine (of_small n _ h0 h1).mono ?_
    rintro e w2 ⟨rfl, hb2⟩
    go_wp2
    go_ret
    exact ⟨ofW n, by have := (ofW_ok n).2; omega, rfl, Up.trans' Hb.out hb2⟩
end Go.Proofs.Ytoaemkbdfinaoaa
