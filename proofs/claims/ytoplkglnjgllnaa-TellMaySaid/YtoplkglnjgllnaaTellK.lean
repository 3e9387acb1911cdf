/-
  tell's writer: stat; parts.
-/
import Derived.Test.YtoplkglnjgllnaaTellJ
import Derived.Test.YtoplkglnjgllnaaTellA
namespace Go.Proofs.Ytoplkglnjgllnaa
open Go.RowKit
set_option linter.unusedVariables false
set_option linter.unusedSimpArgs false

/-- A stat's bytes. -/
def statB (q : QidV) (mode size : Int) (name : List UInt8) : List UInt8 := qidB q ++ le 4 (n32 mode) ++ le 8 (n64 size) ++ txtB name
def statOk (q : QidV) (mode size : Int) (name : List UInt8) : Bool := qidOk q && inB mode 4294967295 && inB size 4611686018427387904 && decide (name.length ≤ 255)

set_option maxRecDepth 20000 in
set_option maxHeartbeats 4000000 in
theorem wStat_any (g : Nat) (xs : List Value) (l : List UInt8) (ok : Bool) (dir : Bool) (ver path mode size : Int) (name : List UInt8) (w : World) (h : Wr w g xs l ok) (hl : l.length ≤ 800000) (hnl : name.length ≤ 1048576) :
    Calls Try.prog 81 #[.pointer (some ⟨g, 0, none⟩), .agg #[.bool dir, .int .i64 ver, .int .i64 path, .int .i64 mode, .int .i64 size, .string (st name)]] w (UnitWr g xs (l ++ statB ⟨dir, ver, path⟩ mode size name) (ok && statOk ⟨dir, ver, path⟩ mode size name) w) := by
  have hQ0 := Blk.new w 27 [.bool dir, .int .i64 ver, .int .i64 path, .int .i64 mode, .int .i64 size, .string (st name)]
  have hW0 := h.alloc (.cells #[.bool dir, .int .i64 ver, .int .i64 path, .int .i64 mode, .int .i64 size, .string (st name)] 27)
  have hk0 : Keeps (Is g) w (w.alloc (.cells #[.bool dir, .int .i64 ver, .int .i64 path, .int .i64 mode, .int .i64 size, .string (st name)] 27)) := (Keeps.refl _ _).alloc _
  have hg := h.lt
  obtain ⟨Q, hQ⟩ : ∃ Q, Q = w.heap.size := ⟨_, rfl⟩
  obtain ⟨W, hW⟩ : ∃ W, W = w.alloc (.cells #[.bool dir, .int .i64 ver, .int .i64 path, .int .i64 mode, .int .i64 size, .string (st name)] 27) := ⟨_, rfl⟩
  have hW' : W = w.alloc (.cells [.bool dir, .int .i64 ver, .int .i64 path, .int .i64 mode, .int .i64 size, .string (st name)].toArray 27) := hW
  rw [← hQ, ← hW'] at hQ0
  rw [← hW] at hW0 hk0
  have hgQ : g < Q := by omega
  have hQn : ¬ Is g Q := fun e => by have e' : Q = g := e; omega
  have hWq := wrap64 size
  have hm := n64_le size
  obtain ⟨m, hmm⟩ : ∃ m, m = n64 size := ⟨_, rfl⟩
  rw [← hmm] at hWq hm
  have HM := Lib.hid hmm
  have q0 := hQ0.cell 0 _ rfl
  have q1 := hQ0.cell 1 _ rfl
  have q2 := hQ0.cell 2 _ rfl
  have HW0 := Lib.hid hW0
  have HQ0 := Lib.hid hQ0
  have HK0 := Lib.hid hk0
  have HQW := Lib.hid hQ
  clear hQ0 hk0 hmm h hg hW' hW0
  go_enter Try.func81, Try.ntmps81
  go_upto_region 1 with fail
  rw [← hW, ← hQ]
  clear hW hQ
  go_wp2_with fail
  refine (wQid_any g xs l ok ⟨dir, ver, path⟩ _ HW0.out (by omega)).mono ?_
  rintro e w3 ⟨rfl, l2, ok2, hl2, hok2, hw3, hk3⟩
  have hlen2 : l2.length ≤ 800013 := by rw [hl2.out, List.length_append, qidB_len]; omega
  have HW3 := Lib.hid hw3
  have HQ3 := Lib.hid (HQ0.out.keeps hk3 hQn)
  have HK3 := Lib.hid (HK0.out.trans hk3)
  have HN2 := Lib.hid hlen2
  clear q0 q1 q2 hw3 hk3 hlen2
  go_wp2_with fail
  refine (wNumber_far g xs l2 ok2 mode w3 HW3.out Q 3 27 _ HQ3.out rfl hgQ (by decide) (by have := HN2.out; omega)).mono ?_
  rintro e w4 ⟨rfl, l4, ok4, hl4, hok4, hw4, hq4, hk4⟩
  have p4 := hq4.cell 4 (.int .i64 size) rfl
  have HQ4 := Lib.hid hq4
  have HW4 := Lib.hid hw4
  have HK4 := Lib.hid ((HK3.out.mono (G' := Two18 g Q) (fun k _ hk => .inl hk)).trans hk4)
  clear hq4 hw4 hk4
  go_wp2_with fail
  refine (wBound_any g xs l4 ok4 size 4611686018427387904 w4 HW4.out).mono ?_
  rintro e w5 ⟨rfl, l5, ok5, hl5, hok5, hw5, hk5⟩
  obtain rfl := hl5.out.symm
  have hq5 := HQ4.out.keeps hk5 hQn
  have hp := hq5.cell 4 (.int .i64 size) rfl
  have hlen4 : l4.length ≤ 800017 := by rw [hl4.out, List.length_append, le_length]; have := HN2.out; omega
  obtain ⟨A5, c5, d5, hB5, ho5, hx⟩ := hw5
  have hb := hB5.cell 18 _ (wr_at18 hx)
  have hcap5 := ho5.cap
  have HLN5 := Lib.hid ho5.len
  have HL4 := Lib.hid hlen4
  have HQ5 := Lib.hid hq5.drew
  have HB5 := Lib.hid hB5.drew
  have HO5 := Lib.hid ho5.drew
  have HK5 := Lib.hid (HK4.out.trans (hk5.mono (G' := Two18 g Q) (fun k _ hk => .inl hk))).drew
  clear hq5 hB5 ho5 hk5 p4 hl5 hlen4
  go_wp2
  refine wp_region_tr (Is g) (.t 0 (.t 1 (.t 2 (.t 3 (.t 5 (.t 6 (.t 7 (.s 4 (.s 8 (.t 9 (.t 10 (.s 11 .nil)))))))))))) (by kernel_rfl) (by kernel_rfl) ?_
  have hp' := cell_abv (G := Is g) (w := w5.drew) hp hQn
  repeat (refine tr_take (by simp only [List.getElem?_toArray, List.getElem?_cons_succ, List.getElem?_cons_zero]; exact rfl) ?_; go_big_quiet_step (fail); refine wpQuiet_nil ?_)
  refine tr_solo (by simp only [List.getElem?_toArray, List.getElem?_cons_succ, List.getElem?_cons_zero]; exact rfl) ?_
  go_wp2
  refine Solo.mk (Keeps.refl _ _) ?_
  refine tr_solo (by simp only [List.getElem?_toArray, List.getElem?_cons_succ, List.getElem?_cons_zero]; exact rfl) ?_
  go_wp2_with fail
  refine (u64_any A5 c5 d5 l4 m _ HO5.out.rd hcap5.1 (by rw [← HLN5.out]; have := HL4.out; omega) hm).mono ?_
  rintro e w6 ⟨A6, n6, c6, l6, hl6, rfl, hown6, hb6⟩
  have hB6 := HB5.out.up hb6
  have f18 := hB6.free 18
  have p18 := hB6.cell 18 _ (wr_at18 hx)
  have HQ6 := Lib.hid (HQ5.out.up hb6)
  have HB6 := Lib.hid hB6
  have HO6 := Lib.hid hown6
  have HK6 := Lib.hid hb6
  clear hB6 hown6
  go_wp2
  refine Solo.up hb6 ?_
  clear hb6
  repeat (refine tr_take (by simp only [List.getElem?_toArray, List.getElem?_cons_succ, List.getElem?_cons_zero]; exact rfl) ?_; go_big_quiet_step (fail); refine wpQuiet_nil ?_)
  refine tr_solo (by simp only [List.getElem?_toArray, List.getElem?_cons_succ, List.getElem?_cons_zero]; exact rfl) ?_
  go_wp2
  refine Solo.mk ((Keeps.refl (Is g) _).setCell (p := ⟨g, 18, none⟩) (.inl rfl) _) ?_
  refine tr_end ?_
  have hw7 := Wr.laid HB6.out (HO6.out.lower (Nat.succ_le_of_lt HB5.out.lt)) hx
  have hk7 : Keeps (Two18 g Q) w (w6.setCell ⟨g, 18, none⟩ (.slice A6 n6 c6)) := HK5.out.trans ((Keeps.of_below HK6.out).trans ((Keeps.refl (Two18 g Q) _).setCell (p := ⟨g, 18, none⟩) (.inl (.inl rfl)) _))
  have hq7 := HQ6.out.keeps ((Keeps.refl (Is g) _).setCell (p := ⟨g, 18, none⟩) (.inl rfl) (.slice A6 n6 c6)) hQn
  have HW7 := Lib.hid hw7
  have HK7 := Lib.hid hk7
  have HQ7 := Lib.hid hq7
  clear hw7 hk7 hq7
  generalize w6.setCell ⟨g, 18, none⟩ (.slice A6 n6 c6) = w7 at HW7 HK7 HQ7 ⊢
  clear f18 p18 hp hp' hb
  go_wp2_with fail
  refine (wText_far g xs l6 ok5 name w7 HW7.out Q 5 27 _ HQ7.out rfl hgQ (by decide) (by rw [hl6.out, List.length_append, le_length]; have := HL4.out; omega) hnl).mono ?_
  rintro e w8 ⟨rfl, l8, ok8, hl8, hok8, hw8, hq8, hk8⟩
  have HW8 := Lib.hid hw8
  have HK8 := Lib.hid (HK7.out.trans hk8)
  clear hw8 hk8 hq8
  go_wp2
  go_end0
  refine ⟨rfl, l8, ok8, Lib.hid ?_, Lib.hid ?_, HW8.out, HK8.out.mono fun k hk hk2 => ?_⟩
  · rw [hl8.out, hl6.out, hl4.out, hl2.out, HM.out]; simp [statB, List.append_assoc]
  · rw [hok8.out, hok5.out, hok4.out, hok2.out]; simp [statOk, Bool.and_assoc]
  · rcases hk2 with e | e
    · exact e
    · have := HQW.out; omega

/-- The parts that are laid of a type. -/
def partsM (k : Int) : List Int := (([[0, 4], [5], [3], [], [6], [5, 1], [5, 1], [7], [2], [], [], [8], []] : List (List Int))[kindsW.findIdx (· == k)]?).getD []
def iv18 (l : List Int) : List Value := l.map (Value.int .i64)
def PartsPost (k : Int) (w : World) (e : Ending) (w' : World) : Prop :=
  ∃ A n c p b, Hid (p = partsM k) ∧ Hid (b = kindsW.contains k) ∧ e = .returned (.tuple #[.slice A n c, .bool b]) ∧ RdV w' w'.heap.size A n (iv18 p) ∧ Below w.heap.size w w'

theorem parts_101 (w : World) : Calls Try.prog 46 #[.int .i64 101] w (PartsPost 101 w) := by
  go_enter Try.func46, Try.ntmps46
  go_wp2
  go_ret2
  exact ⟨some ⟨w.heap.size, 0, none⟩, 2, 2, [0, 4], true, rfl, rfl, rfl, (RdV.new w (iv18 [0, 4]) _ rfl _ _).more (by simp), (Below.refl _ _).alloc (Nat.le_refl _) _⟩
theorem parts_105 (w : World) : Calls Try.prog 46 #[.int .i64 105] w (PartsPost 105 w) := by
  go_enter Try.func46, Try.ntmps46
  go_wp2
  go_ret2
  exact ⟨some ⟨w.heap.size, 0, none⟩, 1, 1, [5], true, rfl, rfl, rfl, (RdV.new w (iv18 [5]) _ rfl _ _).more (by simp), (Below.refl _ _).alloc (Nat.le_refl _) _⟩
theorem parts_107 (w : World) : Calls Try.prog 46 #[.int .i64 107] w (PartsPost 107 w) := by
  go_enter Try.func46, Try.ntmps46
  go_wp2
  go_ret2
  exact ⟨some ⟨w.heap.size, 0, none⟩, 1, 1, [3], true, rfl, rfl, rfl, (RdV.new w (iv18 [3]) _ rfl _ _).more (by simp), (Below.refl _ _).alloc (Nat.le_refl _) _⟩
theorem parts_109 (w : World) : Calls Try.prog 46 #[.int .i64 109] w (PartsPost 109 w) := by
  go_enter Try.func46, Try.ntmps46
  go_wp2
  go_ret2
  exact ⟨none, 0, 0, [], true, rfl, rfl, rfl, RdV.nil, Below.refl _ _⟩
theorem parts_111 (w : World) : Calls Try.prog 46 #[.int .i64 111] w (PartsPost 111 w) := by
  go_enter Try.func46, Try.ntmps46
  go_wp2
  go_ret2
  exact ⟨some ⟨w.heap.size, 0, none⟩, 1, 1, [6], true, rfl, rfl, rfl, (RdV.new w (iv18 [6]) _ rfl _ _).more (by simp), (Below.refl _ _).alloc (Nat.le_refl _) _⟩
theorem parts_113 (w : World) : Calls Try.prog 46 #[.int .i64 113] w (PartsPost 113 w) := by
  go_enter Try.func46, Try.ntmps46
  go_wp2
  go_ret2
  exact ⟨some ⟨w.heap.size, 0, none⟩, 2, 2, [5, 1], true, rfl, rfl, rfl, (RdV.new w (iv18 [5, 1]) _ rfl _ _).more (by simp), (Below.refl _ _).alloc (Nat.le_refl _) _⟩
theorem parts_115 (w : World) : Calls Try.prog 46 #[.int .i64 115] w (PartsPost 115 w) := by
  go_enter Try.func46, Try.ntmps46
  go_wp2
  go_ret2
  exact ⟨some ⟨w.heap.size, 0, none⟩, 2, 2, [5, 1], true, rfl, rfl, rfl, (RdV.new w (iv18 [5, 1]) _ rfl _ _).more (by simp), (Below.refl _ _).alloc (Nat.le_refl _) _⟩
theorem parts_117 (w : World) : Calls Try.prog 46 #[.int .i64 117] w (PartsPost 117 w) := by
  go_enter Try.func46, Try.ntmps46
  go_wp2
  go_ret2
  exact ⟨some ⟨w.heap.size, 0, none⟩, 1, 1, [7], true, rfl, rfl, rfl, (RdV.new w (iv18 [7]) _ rfl _ _).more (by simp), (Below.refl _ _).alloc (Nat.le_refl _) _⟩
theorem parts_119 (w : World) : Calls Try.prog 46 #[.int .i64 119] w (PartsPost 119 w) := by
  go_enter Try.func46, Try.ntmps46
  go_wp2
  go_ret2
  exact ⟨some ⟨w.heap.size, 0, none⟩, 1, 1, [2], true, rfl, rfl, rfl, (RdV.new w (iv18 [2]) _ rfl _ _).more (by simp), (Below.refl _ _).alloc (Nat.le_refl _) _⟩
theorem parts_121 (w : World) : Calls Try.prog 46 #[.int .i64 121] w (PartsPost 121 w) := by
  go_enter Try.func46, Try.ntmps46
  go_wp2
  go_ret2
  exact ⟨none, 0, 0, [], true, rfl, rfl, rfl, RdV.nil, Below.refl _ _⟩
theorem parts_123 (w : World) : Calls Try.prog 46 #[.int .i64 123] w (PartsPost 123 w) := by
  go_enter Try.func46, Try.ntmps46
  go_wp2
  go_ret2
  exact ⟨none, 0, 0, [], true, rfl, rfl, rfl, RdV.nil, Below.refl _ _⟩
theorem parts_125 (w : World) : Calls Try.prog 46 #[.int .i64 125] w (PartsPost 125 w) := by
  go_enter Try.func46, Try.ntmps46
  go_wp2
  go_ret2
  exact ⟨some ⟨w.heap.size, 0, none⟩, 1, 1, [8], true, rfl, rfl, rfl, (RdV.new w (iv18 [8]) _ rfl _ _).more (by simp), (Below.refl _ _).alloc (Nat.le_refl _) _⟩
theorem parts_127 (w : World) : Calls Try.prog 46 #[.int .i64 127] w (PartsPost 127 w) := by
  go_enter Try.func46, Try.ntmps46
  go_wp2
  go_ret2
  exact ⟨none, 0, 0, [], true, rfl, rfl, rfl, RdV.nil, Below.refl _ _⟩
theorem kind_out (k : Int) (h : k ∉ kindsW) : partsM k = [] ∧ kindsW.contains k = false := by
  have h1 : kindsW.findIdx (· == k) = kindsW.length := by
    rw [List.findIdx_eq_length]
    intro x hx
    simp only [beq_eq_false_iff_ne, ne_eq]
    rintro rfl
    exact h hx
  constructor
  · unfold partsM
    rw [h1]; rfl
  · simpa using h
theorem parts_none (k : Int) (h : k ∉ kindsW) (w : World) : Calls Try.prog 46 #[.int .i64 k] w (PartsPost k w) := by
  obtain ⟨hp, hb⟩ := kind_out k h
  have HP := Lib.hid hp
  have HB := Lib.hid hb
  clear hp hb
  simp only [kindsW, List.mem_cons, List.not_mem_nil, or_false, not_or] at h
  obtain ⟨h1, h2, h3, h4, h5, h6, h7, h8, h9, h10, h11, h12, h13⟩ := h
  go_enter Try.func46, Try.ntmps46
  go_wp2
  go_ret2
  exact ⟨none, 0, 0, [], false, Lib.hid HP.out.symm, Lib.hid HB.out.symm, rfl, RdV.nil, Below.refl _ _⟩
theorem parts_any (k : Int) (w : World) : Calls Try.prog 46 #[.int .i64 k] w (PartsPost k w) := by
  by_cases h : k ∈ kindsW
  · simp only [kindsW, List.mem_cons, List.not_mem_nil, or_false] at h
    rcases h with rfl | rfl | rfl | rfl | rfl | rfl | rfl | rfl | rfl | rfl | rfl | rfl | rfl
    · exact parts_101 w
    · exact parts_105 w
    · exact parts_107 w
    · exact parts_109 w
    · exact parts_111 w
    · exact parts_113 w
    · exact parts_115 w
    · exact parts_117 w
    · exact parts_119 w
    · exact parts_121 w
    · exact parts_123 w
    · exact parts_125 w
    · exact parts_127 w
  · exact parts_none k h w
end Go.Proofs.Ytoplkglnjgllnaa
