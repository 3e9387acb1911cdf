/-
  tell's writer: part.
-/
import Derived.Test.YtoplkglnjgllnaaTellK
namespace Go.Proofs.Ytoplkglnjgllnaa
open Go.RowKit
set_option linter.unusedVariables false
set_option linter.unusedSimpArgs false

/-- The writer in block g holds the reply t; its Qids and Data lie below g. -/
def WrT (w : World) (g : Nat) (t : TellV) (l : List UInt8) (ok : Bool) : Prop :=
  ∃ Aq nq cq Ad nd cd, Wr w g (tellC t Aq nq cq Ad nd cd) l ok ∧ RdR w g 3 Aq nq (t.qids.map qidC) ∧ RdB w g Ad nd t.data ∧ nd ≤ 1048576 ∧ nq ≤ 1048576
theorem WrT.lt {w : World} {g : Nat} {t : TellV} {l : List UInt8} {ok : Bool} (h : WrT w g t l ok) : g < w.heap.size := by obtain ⟨_, _, _, _, _, _, h, _⟩ := h; exact h.lt

/-- The reply, a part of which is laid (it is nothing then); the part's bytes; may it be? -/
def partT (k : Int) (t : TellV) : TellV :=
  if k = 0 then { t with msize := 0 } else if k = 1 then { t with iounit := 0 } else if k = 2 then { t with count := 0 } else if k = 3 then { t with code := 0 } else if k = 4 then { t with name := [] } else if k = 5 then { t with qid := qidZ } else if k = 6 then { t with qids := [] } else if k = 7 then { t with data := [] } else if k = 8 then { t with sqid := qidZ, smode := 0, ssize := 0, sname := [] } else t
def partB (k : Int) (t : TellV) : List UInt8 :=
  if k = 0 then le 4 (n32 t.msize) else if k = 1 then le 4 (n32 t.iounit) else if k = 2 then le 4 (n32 t.count) else if k = 3 then le 2 (n16 t.code) else if k = 4 then txtB t.name else if k = 5 then qidB t.qid else if k = 6 then qidsB t.qids else if k = 7 then le 4 t.data.length ++ t.data else if k = 8 then statB t.sqid t.smode t.ssize t.sname else []
def partOk (k : Int) (t : TellV) : Bool :=
  if k = 0 then inB t.msize 4294967295 else if k = 1 then inB t.iounit 4294967295 else if k = 2 then inB t.count 4294967295 else if k = 3 then inB t.code 65535 else if k = 4 then decide (t.name.length ≤ 255) else if k = 5 then qidOk t.qid else if k = 6 then qidsOk t.qids else if k = 7 then decide (t.data.length ≤ 1024) else if k = 8 then statOk t.sqid t.smode t.ssize t.sname else true

def UnitT (g : Nat) (t : TellV) (l : List UInt8) (ok : Bool) (w : World) (e : Ending) (w' : World) : Prop :=
  e = .returned (.tuple #[]) ∧ ∃ t' l' ok', Hid (t' = t) ∧ Hid (l' = l) ∧ Hid (ok' = ok) ∧ WrT w' g t' l' ok' ∧ Keeps (Is g) w w'

theorem st_nil : st [] = ByteArray.empty := rfl

set_option maxRecDepth 20000 in
set_option maxHeartbeats 4000000 in
theorem wPart_0 (g : Nat) (t : TellV) (l : List UInt8) (ok : Bool) (w : World) (h : WrT w g t l ok) (hl : l.length ≤ 700000) (hnl : t.name.length ≤ 1048576) (hsl : t.sname.length ≤ 1048576) :
    Calls Try.prog 53 #[.pointer (some ⟨g, 0, none⟩), .int .i64 0] w (UnitT g (partT 0 t) (l ++ partB 0 t) (ok && partOk 0 t) w) := by
  obtain ⟨kind, tag, code, msize, iounit, count, name, ⟨qdir, qver, qpath⟩, qids, data, ⟨sdir, sver, spath⟩, smode, ssize, sname⟩ := t
  have hgl := h.lt
  obtain ⟨Aq, nq, cq, Ad, nd, cd, hw, hq, hd, hnd⟩ := h
  have HQ := Lib.hid hq
  have HD := Lib.hid hd
  have HW := Lib.hid hw
  obtain ⟨A, c, d, hB, ho, hx⟩ := hw
  clear hB ho hq hd
  go_enter Try.func53, Try.ntmps53
  go_wp2_with fail
  refine (wNumber_own g _ l ok msize w HW.out 3 (by omega) rfl (by omega)).mono ?_
  rintro e w1 ⟨rfl, l1, ok1, hl1, hok1, hw1, hk1⟩
  have HW1 := Lib.hid hw1
  have HK1 := Lib.hid hk1
  clear hw1 hk1
  go_wp2
  go_end0
  exact ⟨rfl, ⟨kind, tag, code, 0, iounit, count, name, ⟨qdir, qver, qpath⟩, qids, data, ⟨sdir, sver, spath⟩, smode, ssize, sname⟩, l1, ok1, rfl, Lib.hid (by rw [hl1.out]; rfl), Lib.hid (by rw [hok1.out]; rfl), ⟨Aq, nq, cq, Ad, nd, cd, HW1.out, (HQ.out).below (HK1.out.is (Nat.le_refl g) (Nat.le_of_lt hgl)), (HD.out).below (HK1.out.is (Nat.le_refl g) (Nat.le_of_lt hgl)), hnd⟩, HK1.out⟩

set_option maxRecDepth 20000 in
set_option maxHeartbeats 4000000 in
theorem wPart_1 (g : Nat) (t : TellV) (l : List UInt8) (ok : Bool) (w : World) (h : WrT w g t l ok) (hl : l.length ≤ 700000) (hnl : t.name.length ≤ 1048576) (hsl : t.sname.length ≤ 1048576) :
    Calls Try.prog 53 #[.pointer (some ⟨g, 0, none⟩), .int .i64 1] w (UnitT g (partT 1 t) (l ++ partB 1 t) (ok && partOk 1 t) w) := by
  obtain ⟨kind, tag, code, msize, iounit, count, name, ⟨qdir, qver, qpath⟩, qids, data, ⟨sdir, sver, spath⟩, smode, ssize, sname⟩ := t
  have hgl := h.lt
  obtain ⟨Aq, nq, cq, Ad, nd, cd, hw, hq, hd, hnd⟩ := h
  have HQ := Lib.hid hq
  have HD := Lib.hid hd
  have HW := Lib.hid hw
  obtain ⟨A, c, d, hB, ho, hx⟩ := hw
  clear hB ho hq hd
  go_enter Try.func53, Try.ntmps53
  go_wp2_with fail
  refine (wNumber_own g _ l ok iounit w HW.out 4 (by omega) rfl (by omega)).mono ?_
  rintro e w1 ⟨rfl, l1, ok1, hl1, hok1, hw1, hk1⟩
  have HW1 := Lib.hid hw1
  have HK1 := Lib.hid hk1
  clear hw1 hk1
  go_wp2
  go_end0
  exact ⟨rfl, ⟨kind, tag, code, msize, 0, count, name, ⟨qdir, qver, qpath⟩, qids, data, ⟨sdir, sver, spath⟩, smode, ssize, sname⟩, l1, ok1, rfl, Lib.hid (by rw [hl1.out]; rfl), Lib.hid (by rw [hok1.out]; rfl), ⟨Aq, nq, cq, Ad, nd, cd, HW1.out, (HQ.out).below (HK1.out.is (Nat.le_refl g) (Nat.le_of_lt hgl)), (HD.out).below (HK1.out.is (Nat.le_refl g) (Nat.le_of_lt hgl)), hnd⟩, HK1.out⟩

set_option maxRecDepth 20000 in
set_option maxHeartbeats 4000000 in
theorem wPart_2 (g : Nat) (t : TellV) (l : List UInt8) (ok : Bool) (w : World) (h : WrT w g t l ok) (hl : l.length ≤ 700000) (hnl : t.name.length ≤ 1048576) (hsl : t.sname.length ≤ 1048576) :
    Calls Try.prog 53 #[.pointer (some ⟨g, 0, none⟩), .int .i64 2] w (UnitT g (partT 2 t) (l ++ partB 2 t) (ok && partOk 2 t) w) := by
  obtain ⟨kind, tag, code, msize, iounit, count, name, ⟨qdir, qver, qpath⟩, qids, data, ⟨sdir, sver, spath⟩, smode, ssize, sname⟩ := t
  have hgl := h.lt
  obtain ⟨Aq, nq, cq, Ad, nd, cd, hw, hq, hd, hnd⟩ := h
  have HQ := Lib.hid hq
  have HD := Lib.hid hd
  have HW := Lib.hid hw
  obtain ⟨A, c, d, hB, ho, hx⟩ := hw
  clear hB ho hq hd
  go_enter Try.func53, Try.ntmps53
  go_wp2_with fail
  refine (wNumber_own g _ l ok count w HW.out 5 (by omega) rfl (by omega)).mono ?_
  rintro e w1 ⟨rfl, l1, ok1, hl1, hok1, hw1, hk1⟩
  have HW1 := Lib.hid hw1
  have HK1 := Lib.hid hk1
  clear hw1 hk1
  go_wp2
  go_end0
  exact ⟨rfl, ⟨kind, tag, code, msize, iounit, 0, name, ⟨qdir, qver, qpath⟩, qids, data, ⟨sdir, sver, spath⟩, smode, ssize, sname⟩, l1, ok1, rfl, Lib.hid (by rw [hl1.out]; rfl), Lib.hid (by rw [hok1.out]; rfl), ⟨Aq, nq, cq, Ad, nd, cd, HW1.out, (HQ.out).below (HK1.out.is (Nat.le_refl g) (Nat.le_of_lt hgl)), (HD.out).below (HK1.out.is (Nat.le_refl g) (Nat.le_of_lt hgl)), hnd⟩, HK1.out⟩

set_option maxRecDepth 20000 in
set_option maxHeartbeats 4000000 in
theorem wPart_3 (g : Nat) (t : TellV) (l : List UInt8) (ok : Bool) (w : World) (h : WrT w g t l ok) (hl : l.length ≤ 700000) (hnl : t.name.length ≤ 1048576) (hsl : t.sname.length ≤ 1048576) :
    Calls Try.prog 53 #[.pointer (some ⟨g, 0, none⟩), .int .i64 3] w (UnitT g (partT 3 t) (l ++ partB 3 t) (ok && partOk 3 t) w) := by
  obtain ⟨kind, tag, code, msize, iounit, count, name, ⟨qdir, qver, qpath⟩, qids, data, ⟨sdir, sver, spath⟩, smode, ssize, sname⟩ := t
  have hgl := h.lt
  obtain ⟨Aq, nq, cq, Ad, nd, cd, hw, hq, hd, hnd⟩ := h
  have HQ := Lib.hid hq
  have HD := Lib.hid hd
  have HW := Lib.hid hw
  obtain ⟨A, c, d, hB, ho, hx⟩ := hw
  have hW16 := wrap16 code
  have hm := n16_le code
  obtain ⟨m, hmm⟩ : ∃ m, m = n16 code := ⟨_, rfl⟩
  rw [← hmm] at hW16 hm
  have HM := Lib.hid hmm
  have p2 := hB.cell 2 _ (wr_at hx rfl)
  clear hB ho hq hd hmm
  go_enter Try.func53, Try.ntmps53
  go_wp2_with fail
  refine (wBound_any g _ l ok code 65535 w HW.out).mono ?_
  rintro e w1 ⟨rfl, l1, ok1, hl1, hok1, hw1, hk1⟩
  obtain rfl := hl1.out.symm
  clear hl1 p2 hx
  obtain ⟨A1, c1, d1, hB1, ho1, hx⟩ := hw1
  have hcap := ho1.cap
  have HLN := Lib.hid ho1.len
  have hp : w1.cell? ⟨g, 2, none⟩ = some (.int .i64 code) := hB1.cell 2 _ (wr_at hx rfl)
  have hb : w1.cell? ⟨g, 18, none⟩ = some (.slice A1 c1 d1) := hB1.cell 18 _ (wr_at18 hx)
  have HB1 := Lib.hid hB1.drew
  have HO1 := Lib.hid ho1.drew
  have HK1 := Lib.hid hk1.drew
  clear hB1 ho1 hk1
  go_wp2
  refine wp_region_tr (Is g) (.t 0 (.t 1 (.t 2 (.t 3 (.t 5 (.t 6 (.t 7 (.b 4 (.s 8 (.t 9 (.s 10 (.t 11 (.t 12 (.s 13 .nil)))))) 8 (.t 9 (.s 4 (.s 10 (.t 11 (.t 12 (.s 13 .nil)))))))))))))) (by kernel_rfl) (by kernel_rfl) ?_
  repeat (refine tr_take (by simp only [List.getElem?_toArray, List.getElem?_cons_succ, List.getElem?_cons_zero]; exact rfl) ?_; go_big_quiet_step (fail); refine wpQuiet_nil ?_)
  refine tr_both (by simp only [List.getElem?_toArray, List.getElem?_cons_succ, List.getElem?_cons_zero]; exact rfl) (by simp only [List.getElem?_toArray, List.getElem?_cons_succ, List.getElem?_cons_zero]; exact rfl) ?_ ?_
  · go_wp2
    refine Solo.mk (Keeps.refl _ _) ?_
    refine tr_solo (by simp only [List.getElem?_toArray, List.getElem?_cons_succ, List.getElem?_cons_zero]; exact rfl) ?_
    go_wp2
    refine Solo.mk (Keeps.refl _ _) ?_
    repeat (refine tr_take (by simp only [List.getElem?_toArray, List.getElem?_cons_succ, List.getElem?_cons_zero]; exact rfl) ?_; go_big_quiet_step (fail); refine wpQuiet_nil ?_)
    refine tr_solo (by simp only [List.getElem?_toArray, List.getElem?_cons_succ, List.getElem?_cons_zero]; exact rfl) ?_
    go_wp2_with fail
    refine (u16_any A1 c1 d1 l m _ HO1.out.rd hcap.1 (by rw [← HLN.out]; omega) hm).mono ?_
    rintro e w2 ⟨A2, n2, c2, l2, hl2, rfl, hown2, hb2⟩
    have hB2 := HB1.out.up hb2
    have f18 := hB2.free 18
    have p18 := hB2.cell 18 _ (wr_at18 hx)
    have HB2 := Lib.hid hB2
    have HO2 := Lib.hid hown2
    have HK2 := Lib.hid hb2
    have HL1 := Lib.hid HB1.out.lt
    clear hB2 hown2
    go_wp2
    refine Solo.up hb2 ?_
    clear hb2
    repeat (refine tr_take (by simp only [List.getElem?_toArray, List.getElem?_cons_succ, List.getElem?_cons_zero]; exact rfl) ?_; go_big_quiet_step (fail); refine wpQuiet_nil ?_)
    refine tr_solo (by simp only [List.getElem?_toArray, List.getElem?_cons_succ, List.getElem?_cons_zero]; exact rfl) ?_
    go_wp2
    refine Solo.mk ((Keeps.refl (Is g) _).setCell (p := ⟨g, 18, none⟩) (.inl rfl) _) ?_
    refine tr_end ?_
    have hw3 := Wr.laid HB2.out (HO2.out.lower (Nat.succ_le_of_lt HL1.out)) hx
    have hk3 : Keeps (Is g) w (w2.setCell ⟨g, 18, none⟩ (.slice A2 n2 c2)) := HK1.out.trans ((Keeps.of_below HK2.out).trans ((Keeps.refl (Is g) _).setCell (p := ⟨g, 18, none⟩) (.inl rfl) _))
    have f0 : (w2.setCell ⟨g, 18, none⟩ (.slice A2 n2 c2)).frozen? ⟨g, 2, none⟩ = false := by obtain ⟨_, _, _, h3, _⟩ := hw3; exact h3.free 2
    have p0 : (w2.setCell ⟨g, 18, none⟩ (.slice A2 n2 c2)).cell? ⟨g, 2, none⟩ = some (.int .i64 code) := by obtain ⟨_, _, _, h3, _, hx3⟩ := hw3; exact h3.cell 2 _ (wr_at hx3 rfl)
    have HW3 := Lib.hid (hw3.field (i := 2) (by omega) (.int .i64 0))
    have HK3 := Lib.hid (hk3.setCell (p := ⟨g, 2, none⟩) (.inl rfl) (.int .i64 0))
    clear hw3 hk3
    generalize w2.setCell ⟨g, 18, none⟩ (.slice A2 n2 c2) = w3 at HW3 HK3 f0 p0 ⊢
    clear f18 p18 hp hb
    go_wp2
    go_end0
    exact ⟨rfl, ⟨kind, tag, 0, msize, iounit, count, name, ⟨qdir, qver, qpath⟩, qids, data, ⟨sdir, sver, spath⟩, smode, ssize, sname⟩, l2, ok1, rfl, Lib.hid (by rw [hl2.out, HM.out]; rfl), Lib.hid (by rw [hok1.out]; rfl), ⟨Aq, nq, cq, Ad, nd, cd, HW3.out, (HQ.out).below (HK3.out.is (Nat.le_refl g) (Nat.le_of_lt hgl)), (HD.out).below (HK3.out.is (Nat.le_refl g) (Nat.le_of_lt hgl)), hnd⟩, HK3.out⟩

  · go_wp2
    refine Solo.mk (Keeps.refl _ _) ?_
    repeat (refine tr_take (by simp only [List.getElem?_toArray, List.getElem?_cons_succ, List.getElem?_cons_zero]; exact rfl) ?_; go_big_quiet_step (fail); refine wpQuiet_nil ?_)
    refine tr_solo (by simp only [List.getElem?_toArray, List.getElem?_cons_succ, List.getElem?_cons_zero]; exact rfl) ?_
    go_wp2
    refine Solo.mk (Keeps.refl _ _) ?_
    refine tr_solo (by simp only [List.getElem?_toArray, List.getElem?_cons_succ, List.getElem?_cons_zero]; exact rfl) ?_
    go_wp2_with fail
    refine (u16_any A1 c1 d1 l m _ HO1.out.rd hcap.1 (by rw [← HLN.out]; omega) hm).mono ?_
    rintro e w2 ⟨A2, n2, c2, l2, hl2, rfl, hown2, hb2⟩
    have hB2 := HB1.out.up hb2
    have f18 := hB2.free 18
    have p18 := hB2.cell 18 _ (wr_at18 hx)
    have HB2 := Lib.hid hB2
    have HO2 := Lib.hid hown2
    have HK2 := Lib.hid hb2
    have HL1 := Lib.hid HB1.out.lt
    clear hB2 hown2
    go_wp2
    refine Solo.up hb2 ?_
    clear hb2
    repeat (refine tr_take (by simp only [List.getElem?_toArray, List.getElem?_cons_succ, List.getElem?_cons_zero]; exact rfl) ?_; go_big_quiet_step (fail); refine wpQuiet_nil ?_)
    refine tr_solo (by simp only [List.getElem?_toArray, List.getElem?_cons_succ, List.getElem?_cons_zero]; exact rfl) ?_
    go_wp2
    refine Solo.mk ((Keeps.refl (Is g) _).setCell (p := ⟨g, 18, none⟩) (.inl rfl) _) ?_
    refine tr_end ?_
    have hw3 := Wr.laid HB2.out (HO2.out.lower (Nat.succ_le_of_lt HL1.out)) hx
    have hk3 : Keeps (Is g) w (w2.setCell ⟨g, 18, none⟩ (.slice A2 n2 c2)) := HK1.out.trans ((Keeps.of_below HK2.out).trans ((Keeps.refl (Is g) _).setCell (p := ⟨g, 18, none⟩) (.inl rfl) _))
    have f0 : (w2.setCell ⟨g, 18, none⟩ (.slice A2 n2 c2)).frozen? ⟨g, 2, none⟩ = false := by obtain ⟨_, _, _, h3, _⟩ := hw3; exact h3.free 2
    have p0 : (w2.setCell ⟨g, 18, none⟩ (.slice A2 n2 c2)).cell? ⟨g, 2, none⟩ = some (.int .i64 code) := by obtain ⟨_, _, _, h3, _, hx3⟩ := hw3; exact h3.cell 2 _ (wr_at hx3 rfl)
    have HW3 := Lib.hid (hw3.field (i := 2) (by omega) (.int .i64 0))
    have HK3 := Lib.hid (hk3.setCell (p := ⟨g, 2, none⟩) (.inl rfl) (.int .i64 0))
    clear hw3 hk3
    generalize w2.setCell ⟨g, 18, none⟩ (.slice A2 n2 c2) = w3 at HW3 HK3 f0 p0 ⊢
    clear f18 p18 hp hb
    go_wp2
    go_end0
    exact ⟨rfl, ⟨kind, tag, 0, msize, iounit, count, name, ⟨qdir, qver, qpath⟩, qids, data, ⟨sdir, sver, spath⟩, smode, ssize, sname⟩, l2, ok1, rfl, Lib.hid (by rw [hl2.out, HM.out]; rfl), Lib.hid (by rw [hok1.out]; rfl), ⟨Aq, nq, cq, Ad, nd, cd, HW3.out, (HQ.out).below (HK3.out.is (Nat.le_refl g) (Nat.le_of_lt hgl)), (HD.out).below (HK3.out.is (Nat.le_refl g) (Nat.le_of_lt hgl)), hnd⟩, HK3.out⟩


set_option maxRecDepth 20000 in
set_option maxHeartbeats 4000000 in
theorem wPart_4 (g : Nat) (t : TellV) (l : List UInt8) (ok : Bool) (w : World) (h : WrT w g t l ok) (hl : l.length ≤ 700000) (hnl : t.name.length ≤ 1048576) (hsl : t.sname.length ≤ 1048576) :
    Calls Try.prog 53 #[.pointer (some ⟨g, 0, none⟩), .int .i64 4] w (UnitT g (partT 4 t) (l ++ partB 4 t) (ok && partOk 4 t) w) := by
  obtain ⟨kind, tag, code, msize, iounit, count, name, ⟨qdir, qver, qpath⟩, qids, data, ⟨sdir, sver, spath⟩, smode, ssize, sname⟩ := t
  have hgl := h.lt
  obtain ⟨Aq, nq, cq, Ad, nd, cd, hw, hq, hd, hnd⟩ := h
  have HQ := Lib.hid hq
  have HD := Lib.hid hd
  have HW := Lib.hid hw
  obtain ⟨A, c, d, hB, ho, hx⟩ := hw
  clear hB ho hq hd
  go_enter Try.func53, Try.ntmps53
  go_wp2_with fail
  refine (wText_own g _ l ok name w HW.out 6 (by omega) rfl (by omega) hnl).mono ?_
  rintro e w1 ⟨rfl, l1, ok1, hl1, hok1, hw1, hk1⟩
  have HW1 := Lib.hid hw1
  have HK1 := Lib.hid hk1
  clear hw1 hk1
  go_wp2
  go_end0
  exact ⟨rfl, ⟨kind, tag, code, msize, iounit, count, [], ⟨qdir, qver, qpath⟩, qids, data, ⟨sdir, sver, spath⟩, smode, ssize, sname⟩, l1, ok1, rfl, Lib.hid (by rw [hl1.out]; rfl), Lib.hid (by rw [hok1.out]; rfl), ⟨Aq, nq, cq, Ad, nd, cd, HW1.out, (HQ.out).below (HK1.out.is (Nat.le_refl g) (Nat.le_of_lt hgl)), (HD.out).below (HK1.out.is (Nat.le_refl g) (Nat.le_of_lt hgl)), hnd⟩, HK1.out⟩

set_option maxRecDepth 20000 in
set_option maxHeartbeats 4000000 in
theorem wPart_5 (g : Nat) (t : TellV) (l : List UInt8) (ok : Bool) (w : World) (h : WrT w g t l ok) (hl : l.length ≤ 700000) (hnl : t.name.length ≤ 1048576) (hsl : t.sname.length ≤ 1048576) :
    Calls Try.prog 53 #[.pointer (some ⟨g, 0, none⟩), .int .i64 5] w (UnitT g (partT 5 t) (l ++ partB 5 t) (ok && partOk 5 t) w) := by
  obtain ⟨kind, tag, code, msize, iounit, count, name, ⟨qdir, qver, qpath⟩, qids, data, ⟨sdir, sver, spath⟩, smode, ssize, sname⟩ := t
  have hgl := h.lt
  obtain ⟨Aq, nq, cq, Ad, nd, cd, hw, hq, hd, hnd⟩ := h
  have HQ := Lib.hid hq
  have HD := Lib.hid hd
  have HW := Lib.hid hw
  obtain ⟨A, c, d, hB, ho, hx⟩ := hw
  have p0 := hB.cell 7 _ (wr_at hx rfl)
  have p1 := hB.cell 8 _ (wr_at hx rfl)
  have p2 := hB.cell 9 _ (wr_at hx rfl)
  clear hB ho hq hd
  go_enter Try.func53, Try.ntmps53
  go_wp2_with fail
  refine (wQid_any g _ l ok ⟨qdir, qver, qpath⟩ w HW.out (by omega)).mono ?_
  rintro e w1 ⟨rfl, l1, ok1, hl1, hok1, hw1, hk1⟩
  clear hx
  obtain ⟨A1, c1, d1, hB1, ho1, hx⟩ := hw1
  have hz := hB1.setRow (tellC ⟨kind, tag, code, msize, iounit, count, name, qidZ, qids, data, ⟨sdir, sver, spath⟩, smode, ssize, sname⟩ Aq nq cq Ad nd cd ++ [Value.slice A1 c1 d1, Value.bool ok1])
  have hks := keeps_setRow w1 (g := g) (tellC ⟨kind, tag, code, msize, iounit, count, name, qidZ, qids, data, ⟨sdir, sver, spath⟩, smode, ssize, sname⟩ Aq nq cq Ad nd cd ++ [Value.slice A1 c1 d1, Value.bool ok1]).toArray
  have hw2 : Wr (w1.setRow g (tellC ⟨kind, tag, code, msize, iounit, count, name, qidZ, qids, data, ⟨sdir, sver, spath⟩, smode, ssize, sname⟩ Aq nq cq Ad nd cd ++ [Value.slice A1 c1 d1, Value.bool ok1]).toArray) g (tellC ⟨kind, tag, code, msize, iounit, count, name, qidZ, qids, data, ⟨sdir, sver, spath⟩, smode, ssize, sname⟩ Aq nq cq Ad nd cd) l1 ok1 := ⟨A1, c1, d1, hz, ho1.keeps hks (fun k hk => not_is hk), rfl⟩
  have hk2 := hk1.trans hks
  have HW2 := Lib.hid hw2
  have HK2 := Lib.hid hk2
  have HB1 := Lib.hid hB1
  clear hk1 ho1 hz hks hw2 hk2 hB1 p0 p1 p2
  go_wp2_with (refine wpList_storeMid8 rfl (.tmp 72) (.tmp 70) rfl rfl [.bool false, .int .i64 0, .int .i64 0] (tellC ⟨kind, tag, code, msize, iounit, count, name, qidZ, qids, data, ⟨sdir, sver, spath⟩, smode, ssize, sname⟩ Aq nq cq Ad nd cd ++ [Value.slice A1 c1 d1, Value.bool ok1]) rfl rfl (by kernel_rfl) HB1.out (by simp [tellC]) (by simp [Value.oneCell']) rfl ?_)
  go_end0
  exact ⟨rfl, ⟨kind, tag, code, msize, iounit, count, name, qidZ, qids, data, ⟨sdir, sver, spath⟩, smode, ssize, sname⟩, l1, ok1, rfl, Lib.hid (by rw [hl1.out]; rfl), Lib.hid (by rw [hok1.out]; rfl), ⟨Aq, nq, cq, Ad, nd, cd, HW2.out, (HQ.out).below (HK2.out.is (Nat.le_refl g) (Nat.le_of_lt hgl)), (HD.out).below (HK2.out.is (Nat.le_refl g) (Nat.le_of_lt hgl)), hnd⟩, HK2.out⟩

set_option maxRecDepth 20000 in
set_option maxHeartbeats 4000000 in
theorem wPart_6 (g : Nat) (t : TellV) (l : List UInt8) (ok : Bool) (w : World) (h : WrT w g t l ok) (hl : l.length ≤ 700000) (hnl : t.name.length ≤ 1048576) (hsl : t.sname.length ≤ 1048576) :
    Calls Try.prog 53 #[.pointer (some ⟨g, 0, none⟩), .int .i64 6] w (UnitT g (partT 6 t) (l ++ partB 6 t) (ok && partOk 6 t) w) := by
  obtain ⟨kind, tag, code, msize, iounit, count, name, ⟨qdir, qver, qpath⟩, qids, data, ⟨sdir, sver, spath⟩, smode, ssize, sname⟩ := t
  have hgl := h.lt
  obtain ⟨Aq, nq, cq, Ad, nd, cd, hw, hq, hd, hnd⟩ := h
  have HQ := Lib.hid hq
  have HD := Lib.hid hd
  have HW := Lib.hid hw
  obtain ⟨A, c, d, hB, ho, hx⟩ := hw
  have p10 := hB.cell 10 _ (wr_at hx rfl)
  clear hB ho hq hd
  go_enter Try.func53, Try.ntmps53
  go_wp2_with fail
  refine (wQids_any g _ l ok Aq nq cq qids w HW.out HQ.out (by omega)).mono ?_
  rintro e w1 ⟨rfl, l1, ok1, hl1, hok1, hw1, hk1⟩
  have f0 : w1.frozen? ⟨g, 10, none⟩ = false := by obtain ⟨_, _, _, h3, _⟩ := hw1; exact h3.free 10
  have p0 : w1.cell? ⟨g, 10, none⟩ = some (.slice Aq nq cq) := by obtain ⟨_, _, _, h3, _, hx3⟩ := hw1; exact h3.cell 10 _ (wr_at hx3 rfl)
  have HW1 := Lib.hid (hw1.field (i := 10) (by omega) (.slice none 0 0))
  have HK1 := Lib.hid (hk1.setCell (p := ⟨g, 10, none⟩) (.inl rfl) (.slice none 0 0))
  clear hw1 hk1 p10
  go_wp2
  go_end0
  exact ⟨rfl, ⟨kind, tag, code, msize, iounit, count, name, ⟨qdir, qver, qpath⟩, [], data, ⟨sdir, sver, spath⟩, smode, ssize, sname⟩, l1, ok1, rfl, Lib.hid (by rw [hl1.out]; rfl), Lib.hid (by rw [hok1.out]; rfl), ⟨none, 0, 0, Ad, nd, cd, HW1.out, RdR.nil, (HD.out).below (HK1.out.is (Nat.le_refl g) (Nat.le_of_lt hgl)), ⟨hnd.1, by omega⟩⟩, HK1.out⟩

set_option maxRecDepth 20000 in
set_option maxHeartbeats 4000000 in
theorem wPart_7 (g : Nat) (t : TellV) (l : List UInt8) (ok : Bool) (w : World) (h : WrT w g t l ok) (hl : l.length ≤ 700000) (hnl : t.name.length ≤ 1048576) (hsl : t.sname.length ≤ 1048576) :
    Calls Try.prog 53 #[.pointer (some ⟨g, 0, none⟩), .int .i64 7] w (UnitT g (partT 7 t) (l ++ partB 7 t) (ok && partOk 7 t) w) := by
  obtain ⟨kind, tag, code, msize, iounit, count, name, ⟨qdir, qver, qpath⟩, qids, data, ⟨sdir, sver, spath⟩, smode, ssize, sname⟩ := t
  have hgl := h.lt
  obtain ⟨Aq, nq, cq, Ad, nd, cd, hw, hq, hd, hnd⟩ := h
  have HQ := Lib.hid hq
  have HD := Lib.hid hd
  have HW := Lib.hid hw
  obtain ⟨A, c, d, hB, ho, hx⟩ := hw
  have p11 := hB.cell 11 _ (wr_at hx rfl)
  have p19 := hB.cell 19 _ (wr_at19 hx)
  have f19 := hB.free 19
  have hln : data.length = nd := hd.len
  have HLD := Lib.hid hln
  obtain ⟨ok1, hok1⟩ : ∃ b, Hid (b = (ok && decide (data.length ≤ 1024))) := ⟨_, rfl⟩
  have hw1 := Wr.note hB ho hx ok1
  have hk1 : Keeps (Is g) w (w.setCell ⟨g, 19, none⟩ (.bool ok1)) := (Keeps.refl (Is g) _).setCell (p := ⟨g, 19, none⟩) (.inl rfl) _
  obtain ⟨w1, hw1e⟩ : ∃ w1, w1 = w.setCell ⟨g, 19, none⟩ (.bool ok1) := ⟨_, rfl⟩
  rw [← hw1e] at hw1 hk1
  obtain ⟨A1, c1, d1, hB1, ho1, hx1⟩ := hw1
  have hcap := ho1.cap
  have HLN := Lib.hid ho1.len
  have hp : w1.cell? ⟨g, 11, none⟩ = some (.slice Ad nd cd) := hB1.cell 11 _ (wr_at hx1 rfl)
  have hb : w1.cell? ⟨g, 18, none⟩ = some (.slice A1 c1 d1) := hB1.cell 18 _ (wr_at18 hx1)
  have HR1 := Lib.hid ((hd.below (hk1.is (Nat.le_refl g) (Nat.le_of_lt hgl))).drew.more (Nat.le_of_lt hB1.drew.lt))
  have HB1 := Lib.hid hB1.drew
  have HO1 := Lib.hid ho1.drew
  have HK1 := Lib.hid hk1.drew
  clear hB ho hq hd hB1 ho1 hk1 hln
  clear hx
  have hw : (ok = false ∧ ok1 = false) ∨ (ok = true ∧ ok1 = true ∧ (nd : Int) ≤ 1024) ∨ (ok = true ∧ ok1 = false ∧ ¬ (nd : Int) ≤ 1024) := by
    have h1 := hok1.out
    have h2 := HLD.out
    by_cases h3 : data.length ≤ 1024
    · rw [decide_eq_true h3] at h1
      rcases ok with _ | _
      · exact .inl ⟨rfl, by simpa using h1⟩
      · exact .inr (.inl ⟨rfl, by simpa using h1, by omega⟩)
    · rw [decide_eq_false h3] at h1
      rcases ok with _ | _
      · exact .inl ⟨rfl, by simpa using h1⟩
      · exact .inr (.inr ⟨rfl, by simpa using h1, by omega⟩)
  rcases hw with ⟨rfl, rfl⟩ | ⟨rfl, rfl, hlen⟩ | ⟨rfl, rfl, hlen⟩
  all_goals
    go_enter Try.func53, Try.ntmps53
    go_upto_region 22 with fail
    rw [← hw1e]
    clear hw1e p11 p19 f19
    refine wp_region_tr (Is g) (.t 0 (.t 1 (.t 2 (.t 3 (.t 5 (.t 6 (.t 7 (.b 4 (.s 8 (.s 9 (.t 10 (.t 11 (.s 12 .nil))))) 8 (.s 4 (.s 9 (.t 10 (.t 11 (.s 12 .nil))))))))))))) (by kernel_rfl) (by kernel_rfl) ?_
    repeat (refine tr_take (by simp only [List.getElem?_toArray, List.getElem?_cons_succ, List.getElem?_cons_zero]; exact rfl) ?_; go_big_quiet_step (fail); refine wpQuiet_nil ?_)
    refine tr_both (by simp only [List.getElem?_toArray, List.getElem?_cons_succ, List.getElem?_cons_zero]; exact rfl) (by simp only [List.getElem?_toArray, List.getElem?_cons_succ, List.getElem?_cons_zero]; exact rfl) ?_ ?_
    · go_wp2
      refine Solo.mk (Keeps.refl _ _) ?_
      refine tr_solo (by simp only [List.getElem?_toArray, List.getElem?_cons_succ, List.getElem?_cons_zero]; exact rfl) ?_
      go_wp2
      refine Solo.mk (Keeps.refl _ _) ?_
      refine tr_solo (by simp only [List.getElem?_toArray, List.getElem?_cons_succ, List.getElem?_cons_zero]; exact rfl) ?_
      go_wp2_with fail
      refine (data_any A1 c1 d1 l Ad nd cd data _ HO1.out.rd hcap.1 (by rw [← HLN.out]; omega) HR1.out hnd.1).mono ?_
      rintro e w2 ⟨A2, n2, c2, l2, hl2, rfl, hown2, hb2⟩
      have hB2 := HB1.out.up hb2
      have f18 := hB2.free 18
      have p18 := hB2.cell 18 _ (wr_at18 hx1)
      have HB2 := Lib.hid hB2
      have HO2 := Lib.hid hown2
      have HK2 := Lib.hid hb2
      have HL1 := Lib.hid HB1.out.lt
      clear hB2 hown2
      go_wp2
      refine Solo.up hb2 ?_
      clear hb2
      repeat (refine tr_take (by simp only [List.getElem?_toArray, List.getElem?_cons_succ, List.getElem?_cons_zero]; exact rfl) ?_; go_big_quiet_step (fail); refine wpQuiet_nil ?_)
      refine tr_solo (by simp only [List.getElem?_toArray, List.getElem?_cons_succ, List.getElem?_cons_zero]; exact rfl) ?_
      go_wp2
      refine Solo.mk ((Keeps.refl (Is g) _).setCell (p := ⟨g, 18, none⟩) (.inl rfl) _) ?_
      refine tr_end ?_
      have hw3 := Wr.laid HB2.out (HO2.out.lower (Nat.succ_le_of_lt HL1.out)) hx1
      have hk3 : Keeps (Is g) w (w2.setCell ⟨g, 18, none⟩ (.slice A2 n2 c2)) := HK1.out.trans ((Keeps.of_below HK2.out).trans ((Keeps.refl (Is g) _).setCell (p := ⟨g, 18, none⟩) (.inl rfl) _))
      have f0 : (w2.setCell ⟨g, 18, none⟩ (.slice A2 n2 c2)).frozen? ⟨g, 11, none⟩ = false := by obtain ⟨_, _, _, h3, _⟩ := hw3; exact h3.free 11
      have p0 : (w2.setCell ⟨g, 18, none⟩ (.slice A2 n2 c2)).cell? ⟨g, 11, none⟩ = some (.slice Ad nd cd) := by obtain ⟨_, _, _, h3, _, hx3⟩ := hw3; exact h3.cell 11 _ (wr_at hx3 rfl)
      have HW3 := Lib.hid (hw3.field (i := 11) (by omega) (.slice none 0 0))
      have HK3 := Lib.hid (hk3.setCell (p := ⟨g, 11, none⟩) (.inl rfl) (.slice none 0 0))
      clear hw3 hk3
      generalize w2.setCell ⟨g, 18, none⟩ (.slice A2 n2 c2) = w3 at HW3 HK3 f0 p0 ⊢
      clear f18 p18 hp hb
      go_wp2
      go_end0
      exact ⟨rfl, ⟨kind, tag, code, msize, iounit, count, name, ⟨qdir, qver, qpath⟩, qids, [], ⟨sdir, sver, spath⟩, smode, ssize, sname⟩, l2, _, rfl, Lib.hid (by rw [hl2.out, ← HLD.out, List.append_assoc]; rfl), Lib.hid (by exact hok1.out), ⟨Aq, nq, cq, none, 0, 0, HW3.out, (HQ.out).below (HK3.out.is (Nat.le_refl g) (Nat.le_of_lt hgl)), RdB.nil, ⟨by omega, hnd.2⟩⟩, HK3.out⟩
    · go_wp2
      refine Solo.mk (Keeps.refl _ _) ?_
      refine tr_solo (by simp only [List.getElem?_toArray, List.getElem?_cons_succ, List.getElem?_cons_zero]; exact rfl) ?_
      go_wp2
      refine Solo.mk (Keeps.refl _ _) ?_
      refine tr_solo (by simp only [List.getElem?_toArray, List.getElem?_cons_succ, List.getElem?_cons_zero]; exact rfl) ?_
      go_wp2_with fail
      refine (data_any A1 c1 d1 l Ad nd cd data _ HO1.out.rd hcap.1 (by rw [← HLN.out]; omega) HR1.out hnd.1).mono ?_
      rintro e w2 ⟨A2, n2, c2, l2, hl2, rfl, hown2, hb2⟩
      have hB2 := HB1.out.up hb2
      have f18 := hB2.free 18
      have p18 := hB2.cell 18 _ (wr_at18 hx1)
      have HB2 := Lib.hid hB2
      have HO2 := Lib.hid hown2
      have HK2 := Lib.hid hb2
      have HL1 := Lib.hid HB1.out.lt
      clear hB2 hown2
      go_wp2
      refine Solo.up hb2 ?_
      clear hb2
      repeat (refine tr_take (by simp only [List.getElem?_toArray, List.getElem?_cons_succ, List.getElem?_cons_zero]; exact rfl) ?_; go_big_quiet_step (fail); refine wpQuiet_nil ?_)
      refine tr_solo (by simp only [List.getElem?_toArray, List.getElem?_cons_succ, List.getElem?_cons_zero]; exact rfl) ?_
      go_wp2
      refine Solo.mk ((Keeps.refl (Is g) _).setCell (p := ⟨g, 18, none⟩) (.inl rfl) _) ?_
      refine tr_end ?_
      have hw3 := Wr.laid HB2.out (HO2.out.lower (Nat.succ_le_of_lt HL1.out)) hx1
      have hk3 : Keeps (Is g) w (w2.setCell ⟨g, 18, none⟩ (.slice A2 n2 c2)) := HK1.out.trans ((Keeps.of_below HK2.out).trans ((Keeps.refl (Is g) _).setCell (p := ⟨g, 18, none⟩) (.inl rfl) _))
      have f0 : (w2.setCell ⟨g, 18, none⟩ (.slice A2 n2 c2)).frozen? ⟨g, 11, none⟩ = false := by obtain ⟨_, _, _, h3, _⟩ := hw3; exact h3.free 11
      have p0 : (w2.setCell ⟨g, 18, none⟩ (.slice A2 n2 c2)).cell? ⟨g, 11, none⟩ = some (.slice Ad nd cd) := by obtain ⟨_, _, _, h3, _, hx3⟩ := hw3; exact h3.cell 11 _ (wr_at hx3 rfl)
      have HW3 := Lib.hid (hw3.field (i := 11) (by omega) (.slice none 0 0))
      have HK3 := Lib.hid (hk3.setCell (p := ⟨g, 11, none⟩) (.inl rfl) (.slice none 0 0))
      clear hw3 hk3
      generalize w2.setCell ⟨g, 18, none⟩ (.slice A2 n2 c2) = w3 at HW3 HK3 f0 p0 ⊢
      clear f18 p18 hp hb
      go_wp2
      go_end0
      exact ⟨rfl, ⟨kind, tag, code, msize, iounit, count, name, ⟨qdir, qver, qpath⟩, qids, [], ⟨sdir, sver, spath⟩, smode, ssize, sname⟩, l2, _, rfl, Lib.hid (by rw [hl2.out, ← HLD.out, List.append_assoc]; rfl), Lib.hid (by exact hok1.out), ⟨Aq, nq, cq, none, 0, 0, HW3.out, (HQ.out).below (HK3.out.is (Nat.le_refl g) (Nat.le_of_lt hgl)), RdB.nil, ⟨by omega, hnd.2⟩⟩, HK3.out⟩

set_option maxRecDepth 20000 in
set_option maxHeartbeats 4000000 in
theorem wPart_8 (g : Nat) (t : TellV) (l : List UInt8) (ok : Bool) (w : World) (h : WrT w g t l ok) (hl : l.length ≤ 700000) (hnl : t.name.length ≤ 1048576) (hsl : t.sname.length ≤ 1048576) :
    Calls Try.prog 53 #[.pointer (some ⟨g, 0, none⟩), .int .i64 8] w (UnitT g (partT 8 t) (l ++ partB 8 t) (ok && partOk 8 t) w) := by
  obtain ⟨kind, tag, code, msize, iounit, count, name, ⟨qdir, qver, qpath⟩, qids, data, ⟨sdir, sver, spath⟩, smode, ssize, sname⟩ := t
  have hgl := h.lt
  obtain ⟨Aq, nq, cq, Ad, nd, cd, hw, hq, hd, hnd⟩ := h
  have HQ := Lib.hid hq
  have HD := Lib.hid hd
  have HW := Lib.hid hw
  obtain ⟨A, c, d, hB, ho, hx⟩ := hw
  have p0 := hB.cell 12 _ (wr_at hx rfl)
  have p1 := hB.cell 13 _ (wr_at hx rfl)
  have p2 := hB.cell 14 _ (wr_at hx rfl)
  have p3 := hB.cell 15 _ (wr_at hx rfl)
  have p4 := hB.cell 16 _ (wr_at hx rfl)
  have p5 := hB.cell 17 _ (wr_at hx rfl)
  clear hB ho hq hd
  go_enter Try.func53, Try.ntmps53
  go_wp2_with fail
  refine (wStat_any g _ l ok sdir sver spath smode ssize sname w HW.out (by omega) hsl).mono ?_
  rintro e w1 ⟨rfl, l1, ok1, hl1, hok1, hw1, hk1⟩
  clear hx
  obtain ⟨A1, c1, d1, hB1, ho1, hx⟩ := hw1
  have hz := hB1.setRow (tellC ⟨kind, tag, code, msize, iounit, count, name, ⟨qdir, qver, qpath⟩, qids, data, qidZ, 0, 0, []⟩ Aq nq cq Ad nd cd ++ [Value.slice A1 c1 d1, Value.bool ok1])
  have hks := keeps_setRow w1 (g := g) (tellC ⟨kind, tag, code, msize, iounit, count, name, ⟨qdir, qver, qpath⟩, qids, data, qidZ, 0, 0, []⟩ Aq nq cq Ad nd cd ++ [Value.slice A1 c1 d1, Value.bool ok1]).toArray
  have hw2 : Wr (w1.setRow g (tellC ⟨kind, tag, code, msize, iounit, count, name, ⟨qdir, qver, qpath⟩, qids, data, qidZ, 0, 0, []⟩ Aq nq cq Ad nd cd ++ [Value.slice A1 c1 d1, Value.bool ok1]).toArray) g (tellC ⟨kind, tag, code, msize, iounit, count, name, ⟨qdir, qver, qpath⟩, qids, data, qidZ, 0, 0, []⟩ Aq nq cq Ad nd cd) l1 ok1 := ⟨A1, c1, d1, hz, ho1.keeps hks (fun k hk => not_is hk), rfl⟩
  have hk2 := hk1.trans hks
  have HW2 := Lib.hid hw2
  have HK2 := Lib.hid hk2
  have HB1 := Lib.hid hB1
  clear hk1 ho1 hz hks hw2 hk2 hB1 p0 p1 p2 p3 p4 p5
  go_wp2_with (refine wpList_storeMid8 rfl (.tmp 127) (.tmp 125) rfl rfl [.bool false, .int .i64 0, .int .i64 0, .int .i64 0, .int .i64 0, .string ByteArray.empty] (tellC ⟨kind, tag, code, msize, iounit, count, name, ⟨qdir, qver, qpath⟩, qids, data, qidZ, 0, 0, []⟩ Aq nq cq Ad nd cd ++ [Value.slice A1 c1 d1, Value.bool ok1]) rfl rfl (by kernel_rfl) HB1.out (by simp [tellC]) (by simp [Value.oneCell']) rfl ?_)
  go_end0
  exact ⟨rfl, ⟨kind, tag, code, msize, iounit, count, name, ⟨qdir, qver, qpath⟩, qids, data, qidZ, 0, 0, []⟩, l1, ok1, rfl, Lib.hid (by rw [hl1.out]; rfl), Lib.hid (by rw [hok1.out]; rfl), ⟨Aq, nq, cq, Ad, nd, cd, HW2.out, (HQ.out).below (HK2.out.is (Nat.le_refl g) (Nat.le_of_lt hgl)), (HD.out).below (HK2.out.is (Nat.le_refl g) (Nat.le_of_lt hgl)), hnd⟩, HK2.out⟩
end Go.Proofs.Ytoplkglnjgllnaa
