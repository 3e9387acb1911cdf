/-
  Layer 11: Insert.
-/
import Derived.Test.YtoaemkbdfinaoaaDirC
namespace Go.Proofs.Ytoaemkbdfinaoaa
open Go.RowKit
set_option linter.unusedVariables false
set_option linter.unusedSimpArgs false

/-- The block of a slice. -/
def InBlk (A : Option Addr) : Nat → Prop := fun k => A.map (·.block) = some k
def RowPost (A : Option Addr) (es : List EntI) (w : World) (x : Ending) (w' : World) : Prop :=
  ∃ (A' : Option Addr) (n' c' : Nat), x = .returned (.slice A' n' c') ∧ OwR w' 0 42 3 A' n' c' (es.map eiC) ∧ Keeps (InBlk A) w w' ∧ (A' = A ∨ ∃ b, A' = some ⟨b, 0, none⟩ ∧ w.heap.size ≤ b)

theorem own_in (A : Option Addr) (n c k : Nat) (e : (Value.slice A n c).ownBlock = some k) : InBlk A k := by
  cases A with
  | none => simp [Value.ownBlock] at e
  | some a => simp [Value.ownBlock] at e; subst e; rfl
theorem fresh_of {base n n' c c' size : Nat} {A A' : Option Addr} {e : TypeId} {xs ys : List Value} {w w' : World} (h : Own w' base e size (.slice A' n' c') n' xs) (hA : Own w base e size (.slice A n c) n ys) (hf : (Value.slice A' n' c').ownBlock = (Value.slice A n c).ownBlock ∨ (Value.slice A' n' c').ownBlock = some w.heap.size) : A' = A ∨ ∃ b, A' = some ⟨b, 0, none⟩ ∧ w.heap.size ≤ b := by
  have form : ∀ {w : World} {A : Option Addr} {n c : Nat} {xs : List Value}, Own w base e size (.slice A n c) n xs → A = none ∨ ∃ g, A = some ⟨g, 0, none⟩ := fun h => by
    rcases h.2 with ⟨hv, _⟩ | ⟨g, cap, cur, fz, hv, _⟩
    · injection hv with h1; exact .inl h1
    · injection hv with h1; exact .inr ⟨g, h1⟩
  rcases form h with rfl | ⟨g', rfl⟩
  · rcases form hA with rfl | ⟨g, rfl⟩
    · exact .inl rfl
    · rcases hf with hf | hf <;> simp [Value.ownBlock] at hf
  · rcases hf with hf | hf
    · rcases form hA with rfl | ⟨g, rfl⟩
      · simp [Value.ownBlock] at hf
      · simp [Value.ownBlock] at hf; subst hf; exact .inl rfl
    · simp [Value.ownBlock] at hf; subst hf; exact .inr ⟨_, rfl, Nat.le_refl _⟩
theorem insE_end (es : List EntI) (e : EntI) : insE es es.length e = es ++ [e] := by simp [insE]

set_option maxHeartbeats 4000000 in
theorem ins_end (A : Option Addr) (n c : Nat) (es : List EntI) (e : EntI) (vb : Nat) (w : World) (h : OwR w 0 42 3 A n c (es.map eiC)) (hv : Blk w vb 42 (eiC e)) (hn : n ≤ 1000) :
    Calls Try.prog 33 #[.slice A n c, .int .i64 n, .slice (some ⟨vb, 0, none⟩) 1 1] w (RowPost A (insE es n e) w) := by
  have hln : es.length = n := by have := h.len; simpa using this
  have hcap := h.cap
  have Hsrc := Lib.hid (Src.ofReads (P := Try.prog) (B := vb + 1) (c := 1) 25 42 Try.underlying25 (show Reads w (vb + 1) 3 (some ⟨vb, 0, none⟩) 1 (eiC e) from ⟨rfl, fun _ => ⟨_, rfl, by simp, fun j u hu => by rw [add_plain, Nat.zero_add]; exact hv.cell j u hu⟩⟩) (eiC_one e))
  have H := Lib.hid h
  have HL := Lib.hid hln
  have hnc : (n : Int) ≤ c := by omega
  have hn0 : (0 : Int) ≤ n := by omega
  obtain ⟨hc1, hc2⟩ := hcap
  unfold maxLen at hc2
  clear h hln hv
  rcases Decidable.em (c = n) with hcn | hcn
  all_goals
    (try subst hcn)
    go_enter Try.func33, Try.ntmps33
    go_wp2_with (at_builtin; go_must (refine wpList_append_mine entsElem rfl (.tmp 23) (.tmp 24) 25 rfl 0 (.slice A _ _) _ (es.map eiC).flatten rfl H.out.2.2 _ rfl 1 (eiC e) Hsrc.out (by omega) (by omega) (by omega) ?_); intro A' c' w' hown hg hfr)
    have HO := Lib.hid (show OwR w' 0 42 3 A' (_ + 1) c' ((insE es es.length e).map eiC) from ⟨eiC_len _, by rw [insE_end, List.length_map, List.length_append, HL.out]; rfl, by rw [insE_end, List.map_append, List.flatten_append]; simpa using hown⟩)
    rw [HL.out] at HO
    have HK := Lib.hid (show Keeps (InBlk A) w w' from Keeps.of_grown hg (fun k e => own_in A _ _ k e))
    have HF := Lib.hid (fresh_of hown H.out.2.2 hfr)
    clear hown hg hfr
    go_wp2
    go_ret
    exact ⟨A', _, c', rfl, HO.out, HK.out, HF.out⟩

theorem insE_len (es : List EntI) (i : Nat) (e : EntI) (hi : i ≤ es.length) : (insE es i e).length = es.length + 1 := by simp [insE]; omega
theorem insE_flat (es : List EntI) (i : Nat) (e : EntI) : ((insE es i e).map eiC).flatten = ((es.take i).map eiC).flatten ++ (eiC e ++ ((es.drop i).map eiC).flatten) := by simp [insE]
theorem keeps_setRowIn {A : Option Addr} {g : Nat} (w : World) (cs : Array Value) (h : InBlk A g) : Keeps (InBlk A) w (w.setRow g cs) := (keeps_setRow w cs).mono fun k _ e => by have e' : k = g := e; rw [e']; exact h

set_option maxRecDepth 20000 in
set_option maxHeartbeats 4000000 in
theorem ins_room (A : Option Addr) (n c i : Nat) (es : List EntI) (e : EntI) (vb : Nat) (w : World) (h : OwR w 0 42 3 A n c (es.map eiC)) (hv : Blk w vb 42 (eiC e)) (hne : ¬ InBlk A vb) (hi : i < n) (hroom : n < c) :
    Calls Try.prog 33 #[.slice A n c, .int .i64 i, .slice (some ⟨vb, 0, none⟩) 1 1] w (RowPost A (insE es i e) w) := by
  have hln : es.length = n := by have := h.len; simpa using this
  have hcap := h.cap
  obtain ⟨g, tl, rfl, _, hrow, hcl⟩ := h.row (by omega)
  obtain ⟨hc1, hc2⟩ := hcap
  have hEl : ((es.map eiC).flatten).length = n * 3 := by rw [flatE_len, hln]
  have htl : tl.length = (c - n) * 3 := by have := hcl; rw [List.length_append, hEl] at this; omega
  have hb1 : g ≠ vb := fun e => hne (by rw [← e]; rfl)
  -- the first copy
  obtain ⟨cs, hcs⟩ : ∃ cs, cs = (es.map eiC).flatten ++ tl := ⟨_, rfl⟩
  rw [← hcs] at hrow hcl
  have hx1 : ((cs.drop (i * 3)).take ((n - i) * 3)) = ((es.drop i).map eiC).flatten := by
    rw [hcs, List.drop_append_of_le_length (by rw [hEl]; omega), flatE_drop es i (by omega), List.take_append_of_le_length (by rw [flatE_len, List.length_drop, hln]; omega)]
    exact List.take_of_length_le (by rw [flatE_len, List.length_drop, hln]; omega)
  have hl1 : (((es.drop i).map eiC).flatten).length = (n - i) * 3 := by rw [flatE_len, List.length_drop, hln]
  have hf1 : ∀ W : World, Row W g 42 cs → ∀ sl sc, (Builtin.firstCells 3 (n - i) (.slice (some ⟨g, i * 3, none⟩) sl sc)).run Try.prog W = .ok (((es.drop i).map eiC).flatten).toArray W := fun W hW sl sc =>
    first_some W 3 (n - i) sl sc g (i * 3) _ hl1 (fun j v hv => hW.cell _ _ (by
      rw [← hx1, List.getElem?_take] at hv
      split at hv
      · rw [List.getElem?_drop] at hv; exact hv
      · cases hv))
  obtain ⟨cs1, hcs1⟩ : ∃ x, x = cs.take ((i + 1) * 3) ++ ((es.drop i).map eiC).flatten ++ cs.drop ((i + 1) * 3 + (n - i) * 3) := ⟨_, rfl⟩
  have hcl1 : cs1.length = c * 3 := by rw [hcs1, List.length_append, List.length_append, hl1, List.length_take, List.length_drop, hcl]; omega
  obtain ⟨cs2, hcs2⟩ : ∃ x, x = cs1.take (i * 3) ++ eiC e ++ cs1.drop (i * 3 + 1 * 3) := ⟨_, rfl⟩
  have hcl2 : cs2.length = c * 3 := by rw [hcs2, List.length_append, List.length_append, List.length_take, List.length_drop, hcl1]; simp [eiC]; omega
  have hfin : cs2.take ((n + 1) * 3) = ((insE es i e).map eiC).flatten := by
    have e0 : cs.take (i * 3) = ((es.take i).map eiC).flatten := by rw [hcs, List.take_append_of_le_length (by rw [hEl]; omega), flatE_take es i (by omega)]
    have l0 : (((es.take i).map eiC).flatten).length = i * 3 := by rw [flatE_len, List.length_take, hln]; omega
    have e1 : cs1.take (i * 3) = ((es.take i).map eiC).flatten := by
      rw [hcs1, List.append_assoc, List.take_append_of_le_length (by rw [List.length_take, hcl]; omega), List.take_take, show min (i * 3) ((i + 1) * 3) = i * 3 by omega, e0]
    have e2 : cs1.drop (i * 3 + 1 * 3) = ((es.drop i).map eiC).flatten ++ cs.drop ((i + 1) * 3 + (n - i) * 3) := by
      rw [hcs1, List.append_assoc, show i * 3 + 1 * 3 = (cs.take ((i + 1) * 3)).length by rw [List.length_take, hcl]; omega, List.drop_left]
    rw [hcs2, e1, e2, insE_flat, List.append_assoc]
    rw [show ((es.take i).map eiC).flatten ++ (eiC e ++ (((es.drop i).map eiC).flatten ++ cs.drop ((i + 1) * 3 + (n - i) * 3))) = (((es.take i).map eiC).flatten ++ (eiC e ++ ((es.drop i).map eiC).flatten)) ++ cs.drop ((i + 1) * 3 + (n - i) * 3) by simp [List.append_assoc]]
    rw [List.take_append_of_le_length (by simp only [List.length_append, l0, hl1]; simp [eiC]; omega)]
    exact List.take_of_length_le (by simp only [List.length_append, l0, hl1]; simp [eiC]; omega)
  have hv1 : ∀ W : World, Blk W vb 42 (eiC e) → ∀ sc, (Builtin.firstCells 3 1 (.slice (some ⟨vb, 0, none⟩) 1 sc)).run Try.prog W = .ok (eiC e).toArray W := fun W hW sc =>
    first_some W 3 1 1 sc vb 0 _ rfl (fun j v hv => by rw [Nat.zero_add]; exact hW.cell j v hv)
  have hov : ∀ (lb cb : Nat), (callFunc 40 #[.slice (some ⟨vb, 0, none⟩) 1 1, .slice (some ⟨g, (i + 1) * 3, none⟩) lb cb]).run Try.prog w = .ok (.value (.bool false)) w := fun lb cb => by
    rw [run_callFunc_extern Try.func40 (by kernel_rfl) (by kernel_rfl) (by kernel_rfl) (e := Extern.SlicesOverlaps.overlaps #[25, 25] #[4]) (by kernel_rfl),
      Lib.run_overlaps_apart w 25 4 42 Try.underlying25 3 (fun w => by kernel_rfl) ⟨vb, 0, none⟩ ⟨g, (i + 1) * 3, none⟩ 1 1 lb cb (fun e => hb1 e.symm) 42 42 3 (c * 3) (by have := hv; unfold Blk at this; simp [World.shape?, this, eiC]) (by rw [← hcl]; exact hrow.shape) (by omega) (hv.free 0) (hv.free 3)]
    rfl
  have HR := Lib.hid hrow
  have HV := Lib.hid hv
  have HF1 := Lib.hid hf1
  have HV1 := Lib.hid hv1
  have HL1 := Lib.hid hl1
  have HC := Lib.hid hcl
  have HC1 := Lib.hid hcl1
  have HC2 := Lib.hid hcl2
  have HCS1 := Lib.hid hcs1
  have HCS2 := Lib.hid hcs2
  have HFIN := Lib.hid hfin
  have HLN := Lib.hid hln
  have hm1 : Hid (Nat.min (n + 1 - i) (n - i) = n - i) := Lib.hid (by simp only [Nat.min_def]; split <;> omega)
  have hm2 : Hid (Nat.min 1 (n + 1 - i) = 1) := Lib.hid (by simp only [Nat.min_def]; split <;> omega)
  have w1 : IntKind.i64.wrap ((n : Int) + 1) = n + 1 := IntWalk.i64_in _ (by unfold maxLen at hc2; omega)
  have w2 : IntKind.i64.wrap ((i : Int) + 1) = i + 1 := IntWalk.i64_in _ (by unfold maxLen at hc2; omega)
  have t1 : ((i : Int) == n) = false := by rw [beq_eq_false_iff_ne]; omega
  have t1' : ¬ ((i : Int) = n) := by omega
  have t2 : ¬ ((c : Int) < (n : Int) + 1) := by omega
  have g1 : ¬ (c = i) := by omega
  have g2 : ¬ (c = i + 1) := by omega
  have g3 : (n : Int) + 1 ≤ c := by omega
  have g4 : (i : Int) ≤ n := by omega
  have g5 : (i : Int) ≤ (n : Int) + 1 := by omega
  have g6 : (i : Int) + 1 ≤ (n : Int) + 1 := by omega
  have g7 : (0 : Int) ≤ i := by omega
  have g8 : (0 : Int) ≤ (i : Int) + 1 := by omega
  have g9 : ((i : Int) + 1).toNat = i + 1 := by omega
  have g10 : ((n : Int) + 1).toNat = n + 1 := by omega
  have g11 : (0 : Int) ≤ (n : Int) + 1 := by omega
  clear h hln hrow hv hf1 hv1 hl1 hx1 hcl hcl1 hcl2 hcs hcs1 hcs2 hfin hEl htl
  go_enter Try.func33, Try.ntmps33
  go_wp2_with (simp only [hov])
  clear hov
  refine wp_region_plan (Is g) [(0, false), (1, false), (2, false), (3, false), (4, false), (5, false), (6, false), (7, false), (8, true)] (by kernel_rfl) (by kernel_rfl) ?_
  repeat (refine plan_take (by simp only [List.getElem?_toArray, List.getElem?_cons_succ, List.getElem?_cons_zero]; exact rfl) ?_; go_big_quiet_step (fail); refine wpQuiet_nil ?_)
  refine plan_solo (by simp only [List.getElem?_toArray, List.getElem?_cons_succ, List.getElem?_cons_zero]; exact rfl) ?_
  refine wpList_copyRow (g := g) (o := (i + 1) * 3) (k := 3) rfl (.tmp 73) (.tmp 76) rfl _ Try.underlying25 (by kernel_rfl) HR.out.drew (n - i) (n - i) _ (n + 1 - i) _ _ rfl rfl hm1.out (HF1.out _ HR.out.drew _ _) HL1.out (by rw [HC.out]; omega) (flatE_one _) cs1 HCS1.out.symm ?_
  refine wpList_nil ?_
  refine Solo.mk (keeps_setRow _ _) ?_
  refine plan_end ?_
  have HR1 := Lib.hid (HR.out.drew.setRow cs1 (by rw [HC.out, HC1.out]))
  have HV2 := Lib.hid (HV.out.drew.keeps (keeps_setRow w.drew (g := g) cs1.toArray) (fun e => hb1 (by have e' : vb = g := e; exact e'.symm)))
  have HK1 := Lib.hid (keeps_setRowIn (A := some ⟨g, 0, none⟩) w.drew cs1.toArray rfl)
  generalize w.drew.setRow g cs1.toArray = w1_ at HR1 HV2 HK1 ⊢
  go_wp2_with (refine wpList_copyRow (g := g) (o := i * 3) (k := 3) rfl (.tmp 80) (.tmp 81) rfl _ Try.underlying25 (by kernel_rfl) HR1.out 1 (n + 1 - i) _ 1 _ _ rfl rfl hm2.out (HV1.out _ HV2.out _) rfl (by rw [HC1.out]; omega) (eiC_one e) cs2 HCS2.out.symm ?_)
  have HR2 := Lib.hid (HR1.out.setRow cs2 (by rw [HC1.out, HC2.out]))
  have HK2 := Lib.hid ((Keeps.drew (Keeps.refl (InBlk (some ⟨g, 0, none⟩)) w)).trans (HK1.out.trans (keeps_setRowIn (A := some ⟨g, 0, none⟩) w1_ cs2.toArray rfl)))
  generalize w1_.setRow g cs2.toArray = w2_ at HR2 HK2 ⊢
  go_ret
  exact ⟨_, n + 1, c, rfl, OwR.ofRow HR2.out HC2.out HFIN.out (eiC_len _) (by rw [List.length_map, insE_len es i e (by rw [HLN.out]; omega), HLN.out]) (by omega) hc2 (Nat.zero_le _), HK2.out, .inl rfl⟩

set_option maxRecDepth 20000 in
set_option maxHeartbeats 4000000 in
theorem ins_grow (A : Option Addr) (n c i : Nat) (es : List EntI) (e : EntI) (vb : Nat) (w : World) (h : OwR w 0 42 3 A n c (es.map eiC)) (hv : Blk w vb 42 (eiC e)) (hi : i < n) (hfull : c < n + 1) (hn : n ≤ 1000) :
    Calls Try.prog 33 #[.slice A n c, .int .i64 i, .slice (some ⟨vb, 0, none⟩) 1 1] w (RowPost A (insE es i e) w) := by
  have hln : es.length = n := by have := h.len; simpa using this
  have hcap := h.cap
  obtain ⟨g, tl, rfl, _, hrow, hcl⟩ := h.row (by omega)
  obtain ⟨hc1, hc2⟩ := hcap
  have hEl : ((es.map eiC).flatten).length = n * 3 := by rw [flatE_len, hln]
  obtain ⟨cs, hcs⟩ : ∃ cs, cs = (es.map eiC).flatten ++ tl := ⟨_, rfl⟩
  rw [← hcs] at hrow hcl
  obtain ⟨i0, hi0, hz0, hs0, hb0⟩ := entsElem.info
  have ho1 : (((es.take i).map eiC).flatten).length = i * 3 := by rw [flatE_len, List.length_take, hln]; omega
  have hl1 : (((es.drop i).map eiC).flatten).length = (n - i) * 3 := by rw [flatE_len, List.length_drop, hln]
  have e0 : cs.take (i * 3) = ((es.take i).map eiC).flatten := by rw [hcs, List.take_append_of_le_length (by rw [hEl]; omega), flatE_take es i (by omega)]
  have hx1 : ((cs.drop (i * 3)).take ((n - i) * 3)) = ((es.drop i).map eiC).flatten := by
    rw [hcs, List.drop_append_of_le_length (by rw [hEl]; omega), flatE_drop es i (by omega), List.take_append_of_le_length (by rw [flatE_len, List.length_drop, hln]; omega)]
    exact List.take_of_length_le (by rw [flatE_len, List.length_drop, hln]; omega)
  have hold : (Builtin.firstCells i0.size i (.slice (some ⟨g, 0, none⟩) i c)).run Try.prog w.drew = .ok (((es.take i).map eiC).flatten).toArray w.drew := by
    rw [hs0]
    exact first_some w.drew 3 i i c g 0 _ ho1 (fun j v hv => by
      rw [Nat.zero_add]
      refine hrow.drew.cell _ _ ?_
      rw [← e0, List.getElem?_take] at hv
      split at hv
      · exact hv
      · cases hv)
  have hap : ∀ ty, (Builtin.append_ #[25, 3] ty #[.slice (some ⟨g, 0, none⟩) i c, .int .i64 ((n : Int) + 1 - i)]).run Try.prog w = .ok (.slice (some ⟨w.heap.size, 0, none⟩) (n + 1) (grownCap w (n + 1) c 42))
      (w.drew.alloc (.cells ((((es.take i).map eiC).flatten).toArray ++ Builtin.zeroCells (Value.agg #[.string ByteArray.empty, .int .i64 0, .int .i64 0]).cells (n + 1 - i) ++ Builtin.zeroCells (Value.agg #[.string ByteArray.empty, .int .i64 0, .int .i64 0]).cells (grownCap w (n + 1) c 42 - (n + 1))) 42)) := fun ty => by
    have := Lib.run_append_grow_zeros w 25 3 ty 42 i0 _ .i64 .i64 Try.underlying25 Try.underlying3 hi0 hz0 (some ⟨g, 0, none⟩) i c _ hold (n + 1 - i) (by omega) (by rw [hs0]; omega) (by omega) (by omega) (by rw [hb0]; omega) (growslice_fits (by omega) (by rw [hb0]; omega))
    rw [show i + (n + 1 - i) = n + 1 by omega] at this
    rw [show ((n : Int) + 1 - i) = ((n + 1 - i : Nat) : Int) by omega]
    exact this
  obtain ⟨G, hG⟩ : ∃ G, G = grownCap w (n + 1) c 42 := ⟨_, rfl⟩
  have hGn : n + 1 ≤ G := by rw [hG]; exact grownCap_ge w _ _ _
  have hGm : G ≤ maxLen := by rw [hG]; exact grownCap_le_maxLen w _ _ _ (by unfold maxLen; omega)
  obtain ⟨Z, hZ⟩ : ∃ Z : List Value, (Builtin.zeroCells (Value.agg #[.string ByteArray.empty, .int .i64 0, .int .i64 0]).cells (n + 1 - i) ++ Builtin.zeroCells (Value.agg #[.string ByteArray.empty, .int .i64 0, .int .i64 0]).cells (G - (n + 1))).toList = Z := ⟨_, rfl⟩
  have hZl : Z.length = (G - i) * 3 := by
    rw [← hZ, Array.length_toList, Array.size_append, size_zeroCells, size_zeroCells, show (Value.agg #[.string ByteArray.empty, .int .i64 0, .int .i64 0]).cells.size = 3 from rfl]
    omega
  obtain ⟨rowL, hrowL⟩ : ∃ r, r = ((es.take i).map eiC).flatten ++ Z := ⟨_, rfl⟩
  have hRl : rowL.length = G * 3 := by rw [hrowL, List.length_append, ho1, hZl]; omega
  have hARR : (((es.take i).map eiC).flatten).toArray ++ Builtin.zeroCells (Value.agg #[.string ByteArray.empty, .int .i64 0, .int .i64 0]).cells (n + 1 - i) ++ Builtin.zeroCells (Value.agg #[.string ByteArray.empty, .int .i64 0, .int .i64 0]).cells (G - (n + 1)) = rowL.toArray := by
    rw [hrowL, ← hZ]
    apply Array.ext'
    simp
  rw [← hG, hARR] at hap
  obtain ⟨W1, hW1⟩ : ∃ W, W = w.drew.alloc (.cells rowL.toArray 42) := ⟨_, rfl⟩
  rw [← hW1] at hap
  obtain ⟨N, hN⟩ : ∃ N, N = w.heap.size := ⟨_, rfl⟩
  rw [← hN] at hap
  have hgN : g < N := by rw [hN]; exact hrow.lt
  have hvN : vb < N := by rw [hN]; exact hv.lt
  have hbW : Below w.heap.size w W1 := by rw [hW1]; exact (Below.refl _ _).drew.alloc (Nat.le_refl _) _
  have hR1 : Row W1 N 42 rowL := ⟨(0, 0), by rw [hW1, hN]; exact heap_alloc_new w.drew _, .inl (Nat.le_refl _)⟩
  have hS1 : Row W1 g 42 cs := hrow.keeps (Keeps.of_below (G := NoG) hbW) id
  have hv1 : ∀ W : World, Blk W vb 42 (eiC e) → ∀ sc, (Builtin.firstCells 3 1 (.slice (some ⟨vb, 0, none⟩) 1 sc)).run Try.prog W = .ok (eiC e).toArray W := fun W hW sc =>
    first_some W 3 1 1 sc vb 0 _ rfl (fun j v hv => by rw [Nat.zero_add]; exact hW.cell j v hv)
  have hf1 : ∀ W : World, Row W g 42 cs → ∀ sl sc, (Builtin.firstCells 3 (n - i) (.slice (some ⟨g, i * 3, none⟩) sl sc)).run Try.prog W = .ok (((es.drop i).map eiC).flatten).toArray W := fun W hW sl sc =>
    first_some W 3 (n - i) sl sc g (i * 3) _ hl1 (fun j v hv => hW.cell _ _ (by
      rw [← hx1, List.getElem?_take] at hv
      split at hv
      · rw [List.getElem?_drop] at hv; exact hv
      · cases hv))
  obtain ⟨cs1, hcs1⟩ : ∃ x, x = rowL.take (i * 3) ++ eiC e ++ rowL.drop (i * 3 + 1 * 3) := ⟨_, rfl⟩
  have hcl1 : cs1.length = G * 3 := by rw [hcs1, List.length_append, List.length_append, List.length_take, List.length_drop, hRl]; simp [eiC]; omega
  obtain ⟨cs2, hcs2⟩ : ∃ x, x = cs1.take ((i + 1) * 3) ++ ((es.drop i).map eiC).flatten ++ cs1.drop ((i + 1) * 3 + (n - i) * 3) := ⟨_, rfl⟩
  have hcl2 : cs2.length = G * 3 := by rw [hcs2, List.length_append, List.length_append, hl1, List.length_take, List.length_drop, hcl1]; omega
  have hfin : cs2.take ((n + 1) * 3) = ((insE es i e).map eiC).flatten := by
    have r0 : rowL.take (i * 3) = ((es.take i).map eiC).flatten := by rw [hrowL, ← ho1, List.take_left]
    have e1 : cs1.take ((i + 1) * 3) = ((es.take i).map eiC).flatten ++ eiC e := by
      rw [hcs1, r0, show (i + 1) * 3 = (((es.take i).map eiC).flatten ++ eiC e).length by rw [List.length_append, ho1]; simp [eiC]; omega, List.take_left]
    rw [hcs2, e1, insE_flat]
    rw [show ((es.take i).map eiC).flatten ++ (eiC e ++ ((es.drop i).map eiC).flatten) = ((es.take i).map eiC).flatten ++ eiC e ++ ((es.drop i).map eiC).flatten by simp [List.append_assoc]]
    rw [show (n + 1) * 3 = (((es.take i).map eiC).flatten ++ eiC e ++ ((es.drop i).map eiC).flatten).length by simp only [List.length_append, ho1, hl1]; simp [eiC]; omega, List.take_left]
  have HR1 := Lib.hid hR1
  have HS1 := Lib.hid hS1
  have HV1 := Lib.hid (hv.up hbW)
  have HBW := Lib.hid hbW
  have hNw : w.heap.size ≤ N := Nat.le_of_eq hN.symm
  have HF1 := Lib.hid hf1
  have HVF := Lib.hid hv1
  have HL1 := Lib.hid hl1
  have HRL := Lib.hid hRl
  have HC1 := Lib.hid hcl1
  have HC2 := Lib.hid hcl2
  have HCS1 := Lib.hid hcs1
  have HCS2 := Lib.hid hcs2
  have HFIN := Lib.hid hfin
  have HLN := Lib.hid hln
  have HAP := Lib.hid hap
  have HN := Lib.hid hN
  have hm1 : Hid (Nat.min (n - i) (n - i) = n - i) := Lib.hid (Nat.min_self _)
  have hm2 : Hid (Nat.min 1 (n + 1 - i) = 1) := Lib.hid (by simp only [Nat.min_def]; split <;> omega)
  have w1 : IntKind.i64.wrap ((n : Int) + 1) = n + 1 := IntWalk.i64_in _ (by omega)
  have w2 : IntKind.i64.wrap ((i : Int) + 1) = i + 1 := IntWalk.i64_in _ (by omega)
  have w3 : IntKind.i64.wrap ((n : Int) + 1 - i) = (n : Int) + 1 - i := IntWalk.i64_in _ (by omega)
  have t1 : ((i : Int) == n) = false := by rw [beq_eq_false_iff_ne]; omega
  have t1' : ¬ ((i : Int) = n) := by omega
  have t2 : (c : Int) < (n : Int) + 1 := by omega
  have g1 : ¬ (c = i) := by omega
  have g2 : ¬ (G = i + 1) := by omega
  have g2' : ¬ (G = i) := by omega
  have g4 : (i : Int) ≤ n := by omega
  have g4' : (i : Int) ≤ c := by omega
  have g5 : (i : Int) ≤ (n : Int) + 1 := by omega
  have g6 : (i : Int) + 1 ≤ (n : Int) + 1 := by omega
  have g7 : (0 : Int) ≤ i := by omega
  have g8 : (0 : Int) ≤ (i : Int) + 1 := by omega
  have g9 : ((i : Int) + 1).toNat = i + 1 := by omega
  have g10 : ((n : Int) + 1).toNat = n + 1 := by omega
  have g11 : (0 : Int) ≤ (n : Int) + 1 := by omega
  have nNg : ¬ Is N g := fun e => by have e' : g = N := e; omega
  have nNv : ¬ Is N vb := fun e => by have e' : vb = N := e; omega
  clear h hln hrow hv hf1 hv1 hl1 hx1 hcl hcl1 hcl2 hcs hcs1 hcs2 hfin hEl hap hold hARR hZ hZl hrowL hRl hG hW1 hN hbW hR1 hS1 ho1 e0 hi0 hz0 hs0 hb0
  go_enter Try.func33, Try.ntmps33
  go_upto_region 10 with (at_builtin; refine Lib.wpList_append_run _ rfl _ _ _ _ rfl _ _ rfl rfl _ _ (HAP.out _) ?_)
  go_upto_region 11 with (refine wpList_copyRow (g := N) (o := i * 3) (k := 3) rfl (.tmp 43) (.tmp 44) rfl _ Try.underlying25 (by kernel_rfl) HR1.out 1 (n + 1 - i) _ 1 _ _ rfl rfl hm2.out (HVF.out _ HV1.out _) rfl (by rw [HRL.out]; omega) (eiC_one e) cs1 HCS1.out.symm ?_)
  have HR2 := Lib.hid (HR1.out.setRow cs1 (by rw [HRL.out, HC1.out]))
  have HS2 := Lib.hid (HS1.out.keeps (keeps_setRow W1 (g := N) cs1.toArray) nNg)
  have HB2 := Lib.hid (below_setRow HBW.out hNw cs1.toArray)
  generalize W1.setRow N cs1.toArray = W2 at HR2 HS2 HB2 ⊢
  clear HAP
  simp only [Act.put, List.setIfInBounds_toArray, List.set_cons_succ, List.set_cons_zero]
  refine wp_region_plan (Is N) [(0, false), (1, false), (2, false), (3, false), (4, false), (5, false), (6, false), (7, false), (8, true)] (by kernel_rfl) (by kernel_rfl) ?_
  repeat (refine plan_take (by simp only [List.getElem?_toArray, List.getElem?_cons_succ, List.getElem?_cons_zero]; exact rfl) ?_; go_big_quiet_step (fail); refine wpQuiet_nil ?_)
  refine plan_solo (by simp only [List.getElem?_toArray, List.getElem?_cons_succ, List.getElem?_cons_zero]; exact rfl) ?_
  refine wpList_copyRow (g := N) (o := (i + 1) * 3) (k := 3) rfl (.tmp 50) (.tmp 53) rfl _ Try.underlying25 (by kernel_rfl) HR2.out.drew (n - i) (n - i) _ (n - i) _ _ rfl rfl hm1.out (HF1.out _ HS2.out.drew _ _) HL1.out (by rw [HC1.out]; omega) (flatE_one _) cs2 HCS2.out.symm ?_
  refine wpList_nil ?_
  refine Solo.mk (keeps_setRow _ _) ?_
  refine plan_end ?_
  have HR3 := Lib.hid (HR2.out.drew.setRow cs2 (by rw [HC1.out, HC2.out]))
  have HB3 := Lib.hid (below_setRow HB2.out.drew hNw cs2.toArray)
  generalize W2.drew.setRow N cs2.toArray = W3 at HR3 HB3 ⊢
  go_wp2
  go_ret
  exact ⟨_, n + 1, G, rfl, OwR.ofRow HR3.out HC2.out HFIN.out (eiC_len _) (by rw [List.length_map, insE_len es i e (by rw [HLN.out]; omega), HLN.out]) hGn hGm (Nat.zero_le _), Keeps.of_below HB3.out, .inr ⟨N, rfl, hNw⟩⟩

theorem insert_any (A : Option Addr) (n c i : Nat) (es : List EntI) (e : EntI) (vb : Nat) (w : World) (h : OwR w 0 42 3 A n c (es.map eiC)) (hv : Blk w vb 42 (eiC e)) (hne : ¬ InBlk A vb) (hi : i ≤ n) (hn : n ≤ 1000) :
    Calls Try.prog 33 #[.slice A n c, .int .i64 i, .slice (some ⟨vb, 0, none⟩) 1 1] w (RowPost A (insE es i e) w) := by
  rcases Nat.lt_or_ge i n with hlt | hge
  · rcases Nat.lt_or_ge n c with hr | hf
    · exact ins_room A n c i es e vb w h hv hne hlt hr
    · exact ins_grow A n c i es e vb w h hv hlt (by omega) hn
  · obtain rfl : i = n := by omega
    exact ins_end A i c es e vb w h hv hn
end Go.Proofs.Ytoaemkbdfinaoaa
