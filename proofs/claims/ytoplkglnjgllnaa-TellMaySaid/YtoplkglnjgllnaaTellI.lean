/-
  tell's writer: qid, qids, stat.
-/
import Derived.Test.YtoplkglnjgllnaaTellH
namespace Go.Proofs.Ytoplkglnjgllnaa
open Go.RowKit
set_option linter.unusedVariables false
set_option linter.unusedSimpArgs false

def bitQ (d : Bool) : Nat := if d then 128 else 0
theorem bitQ_le (d : Bool) : bitQ d ≤ 255 := by cases d <;> decide
/-- A qid's bytes. -/
def qidB (q : QidV) : List UInt8 := le 1 (bitQ q.dir) ++ le 4 (n32 q.ver) ++ le 8 (n64 q.path)
def qidOk (q : QidV) : Bool := inB q.ver 4294967295 && inB q.path 4611686018427387904
theorem qidB_len (q : QidV) : (qidB q).length = 13 := by simp [qidB, le_length]

set_option maxRecDepth 20000 in
set_option maxHeartbeats 4000000 in
theorem wQid_any (g : Nat) (xs : List Value) (l : List UInt8) (ok : Bool) (q : QidV) (w : World) (h : Wr w g xs l ok) (hl : l.length ≤ 900000) :
    Calls Try.prog 78 #[.pointer (some ⟨g, 0, none⟩), .agg #[.bool q.dir, .int .i64 q.ver, .int .i64 q.path]] w (UnitWr g xs (l ++ qidB q) (ok && qidOk q) w) := by
  obtain ⟨dir, ver, path⟩ := q
  have hQ0 := Blk.new w 23 [.bool dir, .int .i64 ver, .int .i64 path]
  have hW0 := h.alloc (.cells #[.bool dir, .int .i64 ver, .int .i64 path] 23)
  have hk0 : Keeps (Is g) w (w.alloc (.cells #[.bool dir, .int .i64 ver, .int .i64 path] 23)) := (Keeps.refl _ _).alloc _
  have hg := h.lt
  obtain ⟨Q, hQ⟩ : ∃ Q, Q = w.heap.size := ⟨_, rfl⟩
  obtain ⟨W, hW⟩ : ∃ W, W = w.alloc (.cells #[.bool dir, .int .i64 ver, .int .i64 path] 23) := ⟨_, rfl⟩
  have hW' : W = w.alloc (.cells [.bool dir, .int .i64 ver, .int .i64 path].toArray 23) := hW
  rw [← hQ, ← hW'] at hQ0
  rw [← hW] at hW0 hk0
  have hgQ : g < Q := by omega
  have hQn : ¬ Is g Q := fun e => by have e' : Q = g := e; omega
  have hWq := wrap64 path
  have hm := n64_le path
  obtain ⟨m, hmm⟩ : ∃ m, m = n64 path := ⟨_, rfl⟩
  rw [← hmm] at hWq hm
  have HM := Lib.hid hmm
  have hkb := bitQ_le dir
  obtain ⟨A, c, d, hB0, ho0, hx⟩ := hW0
  have hln0 := ho0.len
  have hcap0 := ho0.cap
  have hb0 := hB0.cell 18 _ (wr_at18 hx)
  have q0 := hQ0.cell 0 _ rfl
  have HLN0 := Lib.hid hln0
  have HB0 := Lib.hid hB0
  have HO0 := Lib.hid ho0
  have HQ0 := Lib.hid hQ0
  have HK0 := Lib.hid hk0
  have HQW := Lib.hid hQ
  clear hB0 ho0 hQ0 hk0 hmm hln0 h hg hW'
  go_enter Try.func78, Try.ntmps78
  go_upto_region 1 with fail
  rw [← hW, ← hQ]
  clear hW hQ
  have hmain : ∃ kb : Nat, kb = bitQ dir := ⟨_, rfl⟩
  rcases dir with _ | _
  all_goals
    go_wp2_with fail
    first
    | refine (u8_any A c d l 0 _ HO0.out.rd hcap0.1 (by rw [← HLN0.out]; omega) (by omega)).mono ?_
    | refine (u8_any A c d l 128 _ HO0.out.rd hcap0.1 (by rw [← HLN0.out]; omega) (by omega)).mono ?_
    rintro e w2 ⟨A2, n2, c2, l2, hl2, rfl, hown2, hb2⟩
    have hB2 := HB0.out.up hb2
    have hq2 := HQ0.out.up hb2
    have f18 := hB2.free 18
    have p18 := hB2.cell 18 _ (wr_at18 hx)
    have hg0 := HB0.out.lt
    have hw3 := Wr.laid hB2 (hown2.lower (Nat.succ_le_of_lt hg0)) hx
    have hk3 : Keeps (Is g) w (w2.setCell ⟨g, 18, none⟩ (.slice A2 n2 c2)) := (HK0.out.trans (Keeps.of_below hb2)).trans ((Keeps.refl (Is g) _).setCell (p := ⟨g, 18, none⟩) (.inl rfl) _)
    have hq3 := hq2.keeps ((Keeps.refl (Is g) _).setCell (p := ⟨g, 18, none⟩) (.inl rfl) (.slice A2 n2 c2)) hQn
    have hlen2 : l2.length ≤ 900001 := by rw [hl2.out, List.length_append, le_length]; omega
    have HW3 := Lib.hid hw3
    have HK3 := Lib.hid hk3
    have HQ3 := Lib.hid hq3
    have HN2 := Lib.hid hlen2
    clear hB2 hq2 hw3 hk3 hq3 hown2 hb2 hb0 q0 hlen2 hg0
    go_upto_region 5 with fail
    generalize w2.setCell ⟨g, 18, none⟩ (.slice A2 n2 c2) = w3 at HW3 HK3 HQ3 ⊢
    clear f18 p18
    go_wp2_with fail
    refine (wNumber_far g xs l2 ok ver w3 HW3.out Q 1 23 _ HQ3.out rfl hgQ (by decide) (by have := HN2.out; omega)).mono ?_
    rintro e w4 ⟨rfl, l4, ok4, hl4, hok4, hw4, hq4, hk4⟩
    have p2 := hq4.cell 2 (.int .i64 path) rfl
    have HQ4 := Lib.hid hq4
    have HW4 := Lib.hid hw4
    have HK4 := Lib.hid ((HK3.out.mono (G' := Two18 g Q) (fun k _ hk => .inl hk)).trans hk4)
    clear hq4 hw4 hk4
    go_wp2_with fail
    refine (wBound_any g xs l4 ok4 path 4611686018427387904 w4 HW4.out).mono ?_
    rintro e w5 ⟨rfl, l5, ok5, hl5, hok5, hw5, hk5⟩
    obtain rfl := hl5.out.symm
    have hq5 := HQ4.out.keeps hk5 hQn
    have hp := hq5.cell 2 (.int .i64 path) rfl
    have hlen4 : l4.length ≤ 900005 := by rw [hl4.out, List.length_append, le_length]; have := HN2.out; omega
    obtain ⟨A5, c5, d5, hB5, ho5, _⟩ := hw5
    have hb := hB5.cell 18 _ (wr_at18 hx)
    have hcap5 := ho5.cap
    have HLN5 := Lib.hid ho5.len
    have HL4 := Lib.hid hlen4
    have HQ5 := Lib.hid hq5.drew
    have HB5 := Lib.hid hB5.drew
    have HO5 := Lib.hid ho5.drew
    have HK5 := Lib.hid (HK4.out.trans (hk5.mono (G' := Two18 g Q) (fun k _ hk => .inl hk))).drew
    clear hq5 hB5 ho5 hk5 p2 hl5 hlen4
    go_wp2
    refine wp_region_tr (Is g) (.t 0 (.t 1 (.t 2 (.t 3 (.t 5 (.t 6 (.t 7 (.s 4 (.s 8 (.t 9 (.t 10 (.s 11 .nil)))))))))))) (by kernel_rfl) (by kernel_rfl) ?_
    have hp' := cell_abv (G := Is g) (w := w5.drew) hp hQn
    repeat (refine tr_take (by simp only [List.getElem?_toArray, List.getElem?_cons_succ, List.getElem?_cons_zero]; exact rfl) ?_; go_big_quiet_step (fail); refine wpQuiet_nil ?_)
    refine tr_solo (by simp only [List.getElem?_toArray, List.getElem?_cons_succ, List.getElem?_cons_zero]; exact rfl) ?_
    go_wp2
    refine Solo.mk (Keeps.refl _ _) ?_
    refine tr_solo (by simp only [List.getElem?_toArray, List.getElem?_cons_succ, List.getElem?_cons_zero]; exact rfl) ?_
    go_wp2_with fail
    refine (u64_any A5 c5 d5 l4 m _ HO5.out.rd hcap5.1 (by rw [← HLN5.out]; have := HL4.out; omega) hm).mono ?_
    rintro e w6 ⟨A6, n6, c6, l6, hl6, rfl, hown6, hb6⟩
    have hB6 := HB5.out.up hb6
    have f18 := hB6.free 18
    have p18 := hB6.cell 18 _ (wr_at18 hx)
    have HB6 := Lib.hid hB6
    have HO6 := Lib.hid hown6
    have HK6 := Lib.hid hb6
    clear hB6 hown6
    go_wp2
    refine Solo.up hb6 ?_
    clear hb6
    repeat (refine tr_take (by simp only [List.getElem?_toArray, List.getElem?_cons_succ, List.getElem?_cons_zero]; exact rfl) ?_; go_big_quiet_step (fail); refine wpQuiet_nil ?_)
    refine tr_solo (by simp only [List.getElem?_toArray, List.getElem?_cons_succ, List.getElem?_cons_zero]; exact rfl) ?_
    go_wp2
    refine Solo.mk ((Keeps.refl (Is g) _).setCell (p := ⟨g, 18, none⟩) (.inl rfl) _) ?_
    refine tr_end ?_
    have hw7 := Wr.laid HB6.out (HO6.out.lower (Nat.succ_le_of_lt HB5.out.lt)) hx
    have hk7 : Keeps (Two18 g Q) w (w6.setCell ⟨g, 18, none⟩ (.slice A6 n6 c6)) := HK5.out.trans ((Keeps.of_below HK6.out).trans ((Keeps.refl (Two18 g Q) _).setCell (p := ⟨g, 18, none⟩) (.inl (.inl rfl)) _))
    have HW7 := Lib.hid hw7
    have HK7 := Lib.hid hk7
    clear hw7 hk7
    generalize w6.setCell ⟨g, 18, none⟩ (.slice A6 n6 c6) = w7 at HW7 HK7 ⊢
    clear f18 p18 hp hp' hb
    go_wp2
    go_end0
    refine ⟨rfl, l6, ok5, Lib.hid ?_, Lib.hid ?_, HW7.out, HK7.out.mono fun k hk hk2 => ?_⟩
    · rw [hl6.out, hl4.out, hl2.out, HM.out]; simp [qidB, bitQ, List.append_assoc]
    · rw [hok5.out, hok4.out]; simp [qidOk, Bool.and_assoc]
    · rcases hk2 with e | e
      · exact e
      · have := HQW.out; omega
end Go.Proofs.Ytoplkglnjgllnaa
