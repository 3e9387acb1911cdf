/-
  ref18.Same: the loop's relation; Qids that differ.
-/
import Derived.Test.YtoplkglnjgllnaaTrE0
namespace Go.Proofs.Ytoplkglnjgllnaa
open Go.RowKit
set_option linter.unusedVariables false
set_option linter.unusedSimpArgs false

def RsJ (n : Nat) (w : World) (i : Value) (wr : World) : Prop := ∃ j : Nat, j ≤ n ∧ i = .int .i64 j ∧ Below w.heap.size w wr
set_option maxRecDepth 100000 in
set_option maxHeartbeats 8000000 in
theorem rsame_qs (kind : Int) (tag : Int) (code : Int) (msize : Int) (iounit : Int) (count : Int) (name : List UInt8) (qdir : Bool) (qver : Int) (qpath : Int) (Aq : Option Addr) (nq cq : Nat) (Ad : Option Addr) (nd cd : Nat) (sdir : Bool) (sver : Int) (spath : Int) (smode : Int) (ssize : Int) (sname : List UInt8) (kind' : Int) (tag' : Int) (code' : Int) (msize' : Int) (iounit' : Int) (count' : Int) (name' : List UInt8) (qdir' : Bool) (qver' : Int) (qpath' : Int) (Aq' : Option Addr) (nq' cq' : Nat) (Ad' : Option Addr) (nd' cd' : Nat) (sdir' : Bool) (sver' : Int) (spath' : Int) (smode' : Int) (ssize' : Int) (sname' : List UInt8) (w : World) (qs qs' : List QidV) (hq1 : RdR w w.heap.size 3 Aq nq (qs.map qidC)) (hq2 : RdR w w.heap.size 3 Aq' nq' (qs'.map qidC)) (hn : nq ≤ 1048576) (hqe : sameQs qs qs' = false) :
    Calls Try.prog 13 #[.agg #[.int .i64 kind, .int .i64 tag, .int .i64 code, .int .i64 msize, .int .i64 iounit, .int .i64 count, .string (st name), .bool qdir, .int .i64 qver, .int .i64 qpath, .slice Aq nq cq, .slice Ad nd cd, .bool sdir, .int .i64 sver, .int .i64 spath, .int .i64 smode, .int .i64 ssize, .string (st sname)], .agg #[.int .i64 kind', .int .i64 tag', .int .i64 code', .int .i64 msize', .int .i64 iounit', .int .i64 count', .string (st name'), .bool qdir', .int .i64 qver', .int .i64 qpath', .slice Aq' nq' cq', .slice Ad' nd' cd', .bool sdir', .int .i64 sver', .int .i64 spath', .int .i64 smode', .int .i64 ssize', .string (st sname')]] w fun e w' => e = .returned (.bool false) ∧ Below w.heap.size w w' := by
  have hl1 : qs.length = nq := by have := hq1.len; simpa using this
  have hl2 : qs'.length = nq' := by have := hq2.len; simpa using this
  have HL1 := Lib.hid hl1
  have HL2 := Lib.hid hl2
  have HQE := Lib.hid hqe
  have gQ : Try.prog.eqGuardType Try.prog.depth 23 = false := by kernel_rfl
  have sQ : Try.prog.stoodInHeld 23 = false := by kernel_rfl
  have gS : Try.prog.eqGuardType Try.prog.depth 27 = false := by kernel_rfl
  have sS : Try.prog.stoodInHeld 27 = false := by kernel_rfl
  have hA0 := (Blk.new w 29 [.int .i64 kind, .int .i64 tag, .int .i64 code, .int .i64 msize, .int .i64 iounit, .int .i64 count, .string (st name), .bool qdir, .int .i64 qver, .int .i64 qpath, .slice Aq nq cq, .slice Ad nd cd, .bool sdir, .int .i64 sver, .int .i64 spath, .int .i64 smode, .int .i64 ssize, .string (st sname)]).alloc (.cells #[.int .i64 kind', .int .i64 tag', .int .i64 code', .int .i64 msize', .int .i64 iounit', .int .i64 count', .string (st name'), .bool qdir', .int .i64 qver', .int .i64 qpath', .slice Aq' nq' cq', .slice Ad' nd' cd', .bool sdir', .int .i64 sver', .int .i64 spath', .int .i64 smode', .int .i64 ssize', .string (st sname')] 29)
  have hB0 := Blk.new (w.alloc (.cells #[.int .i64 kind, .int .i64 tag, .int .i64 code, .int .i64 msize, .int .i64 iounit, .int .i64 count, .string (st name), .bool qdir, .int .i64 qver, .int .i64 qpath, .slice Aq nq cq, .slice Ad nd cd, .bool sdir, .int .i64 sver, .int .i64 spath, .int .i64 smode, .int .i64 ssize, .string (st sname)] 29)) 29 [.int .i64 kind', .int .i64 tag', .int .i64 code', .int .i64 msize', .int .i64 iounit', .int .i64 count', .string (st name'), .bool qdir', .int .i64 qver', .int .i64 qpath', .slice Aq' nq' cq', .slice Ad' nd' cd', .bool sdir', .int .i64 sver', .int .i64 spath', .int .i64 smode', .int .i64 ssize', .string (st sname')]
  have hb : Below w.heap.size w ((w.alloc (.cells #[.int .i64 kind, .int .i64 tag, .int .i64 code, .int .i64 msize, .int .i64 iounit, .int .i64 count, .string (st name), .bool qdir, .int .i64 qver, .int .i64 qpath, .slice Aq nq cq, .slice Ad nd cd, .bool sdir, .int .i64 sver, .int .i64 spath, .int .i64 smode, .int .i64 ssize, .string (st sname)] 29)).alloc (.cells #[.int .i64 kind', .int .i64 tag', .int .i64 code', .int .i64 msize', .int .i64 iounit', .int .i64 count', .string (st name'), .bool qdir', .int .i64 qver', .int .i64 qpath', .slice Aq' nq' cq', .slice Ad' nd' cd', .bool sdir', .int .i64 sver', .int .i64 spath', .int .i64 smode', .int .i64 ssize', .string (st sname')] 29)) := ((Below.refl _ _).alloc (Nat.le_refl _) _).alloc (by simp) _
  rw [show (w.alloc (.cells #[.int .i64 kind, .int .i64 tag, .int .i64 code, .int .i64 msize, .int .i64 iounit, .int .i64 count, .string (st name), .bool qdir, .int .i64 qver, .int .i64 qpath, .slice Aq nq cq, .slice Ad nd cd, .bool sdir, .int .i64 sver, .int .i64 spath, .int .i64 smode, .int .i64 ssize, .string (st sname)] 29)).heap.size = w.heap.size + 1 by simp] at hB0
  obtain ⟨W, hW⟩ : ∃ W, W = (w.alloc (.cells #[.int .i64 kind, .int .i64 tag, .int .i64 code, .int .i64 msize, .int .i64 iounit, .int .i64 count, .string (st name), .bool qdir, .int .i64 qver, .int .i64 qpath, .slice Aq nq cq, .slice Ad nd cd, .bool sdir, .int .i64 sver, .int .i64 spath, .int .i64 smode, .int .i64 ssize, .string (st sname)] 29)).alloc (.cells #[.int .i64 kind', .int .i64 tag', .int .i64 code', .int .i64 msize', .int .i64 iounit', .int .i64 count', .string (st name'), .bool qdir', .int .i64 qver', .int .i64 qpath', .slice Aq' nq' cq', .slice Ad' nd' cd', .bool sdir', .int .i64 sver', .int .i64 spath', .int .i64 smode', .int .i64 ssize', .string (st sname')] 29) := ⟨_, rfl⟩
  have hW' : W = (w.alloc (.cells [.int .i64 kind, .int .i64 tag, .int .i64 code, .int .i64 msize, .int .i64 iounit, .int .i64 count, .string (st name), .bool qdir, .int .i64 qver, .int .i64 qpath, .slice Aq nq cq, .slice Ad nd cd, .bool sdir, .int .i64 sver, .int .i64 spath, .int .i64 smode, .int .i64 ssize, .string (st sname)].toArray 29)).alloc (.cells #[.int .i64 kind', .int .i64 tag', .int .i64 code', .int .i64 msize', .int .i64 iounit', .int .i64 count', .string (st name'), .bool qdir', .int .i64 qver', .int .i64 qpath', .slice Aq' nq' cq', .slice Ad' nd' cd', .bool sdir', .int .i64 sver', .int .i64 spath', .int .i64 smode', .int .i64 ssize', .string (st sname')] 29) := hW
  have hW'' : W = (w.alloc (.cells #[.int .i64 kind, .int .i64 tag, .int .i64 code, .int .i64 msize, .int .i64 iounit, .int .i64 count, .string (st name), .bool qdir, .int .i64 qver, .int .i64 qpath, .slice Aq nq cq, .slice Ad nd cd, .bool sdir, .int .i64 sver, .int .i64 spath, .int .i64 smode, .int .i64 ssize, .string (st sname)] 29)).alloc (.cells [.int .i64 kind', .int .i64 tag', .int .i64 code', .int .i64 msize', .int .i64 iounit', .int .i64 count', .string (st name'), .bool qdir', .int .i64 qver', .int .i64 qpath', .slice Aq' nq' cq', .slice Ad' nd' cd', .bool sdir', .int .i64 sver', .int .i64 spath', .int .i64 smode', .int .i64 ssize', .string (st sname')].toArray 29) := hW
  rw [← hW'] at hA0
  rw [← hW''] at hB0
  rw [← hW] at hb
  have HQ1 := Lib.hid (hq1.up hb)
  have HQ2 := Lib.hid (hq2.up hb)
  have a10 := hA0.cell 10 _ rfl
  have b10 := hB0.cell 10 _ rfl
  have HA := Lib.hid hA0
  have HB := Lib.hid hB0
  have HW := Lib.hid hb
  clear hq1 hq2 hA0 hB0 hb hW' hW'' hl1 hl2 hqe
  by_cases hne : nq = nq'
  · subst hne
    go_enter Try.func13, Try.ntmps13
    go_upto_region 1 with fail
    rw [← hW]
    clear hW
    go_wp2
    go_loopw [5] (fun i wr => EqRel qs qs' nq W i wr) (fun i _ => nq - (intOf i).toNat)
    case atStart => exact ⟨0, by omega, rfl, Lib.hid (by simp), Below.refl _ _⟩
    case round =>
      obtain ⟨j, hj, rfl, hs, hbw⟩ := hrel
      have hA1 := HA.out.up hbw
      have hB1 := HB.out.up hbw
      have HBW := Lib.hid hbw
      clear hbw a10 b10
      by_cases hlt : j < nq
      case neg =>
        exfalso
        obtain rfl : j = nq := by omega
        have hr : sameQs qs qs' = true := by
          rw [hs.out, List.drop_of_length_le (by rw [HL1.out]; exact Nat.le_refl _), List.drop_of_length_le (by rw [HL2.out]; exact Nat.le_refl _)]; rfl
        rw [HQE.out] at hr
        cases hr
      have a10 := hA1.cell 10 _ rfl
      have b10 := hB1.cell 10 _ rfl
      have j0 : (0 : Int) ≤ j := by omega
      have j1 : (j : Int) < nq := by omega
      obtain ⟨b1, o1, r1, hA1', hb1, hr1, _, hc1⟩ := (HQ1.out.below HBW.out).at_ hlt
      obtain ⟨b2, o2, r2, hA2', hb2, hr2, _, hc2⟩ := (HQ2.out.below HBW.out).at_ hlt
      have hj1 : j < qs.length := by rw [HL1.out]; exact hlt
      have hj2 : j < qs'.length := by rw [HL2.out]; exact hlt
      obtain ⟨x, hx⟩ : ∃ x, qs[j]? = some x := ⟨_, List.getElem?_eq_getElem hj1⟩
      obtain ⟨y, hy⟩ : ∃ y, qs'[j]? = some y := ⟨_, List.getElem?_eq_getElem hj2⟩
      have hd := sameQs_drop qs qs' j x y hx hy
      rw [List.getElem?_map, hx] at hr1
      rw [List.getElem?_map, hy] at hr2
      obtain rfl : r1 = qidC x := (Option.some.inj hr1).symm
      obtain rfl : r2 = qidC y := (Option.some.inj hr2).symm
      obtain ⟨xd, xv, xp⟩ := x
      obtain ⟨yd, yv, yp⟩ := y
      subst hA1'
      subst hA2'
      have d0 : ∀ p : Abv NoG wr.drew, p.val.cell? ⟨b1, o1 + j * 3, none⟩ = some (.bool xd) := cell_abv (w := wr.drew) (hc1 0 _ rfl) id
      have d1 : ∀ p : Abv NoG wr.drew, p.val.cell? ⟨b1, o1 + j * 3 + 1, none⟩ = some (.int .i64 xv) := cell_abv (w := wr.drew) (hc1 1 _ rfl) id
      have d2 : ∀ p : Abv NoG wr.drew, p.val.cell? ⟨b1, o1 + j * 3 + 2, none⟩ = some (.int .i64 xp) := cell_abv (w := wr.drew) (hc1 2 _ rfl) id
      have e0 : ∀ p : Abv NoG wr.drew, p.val.cell? ⟨b2, o2 + j * 3, none⟩ = some (.bool yd) := cell_abv (w := wr.drew) (hc2 0 _ rfl) id
      have e1 : ∀ p : Abv NoG wr.drew, p.val.cell? ⟨b2, o2 + j * 3 + 1, none⟩ = some (.int .i64 yv) := cell_abv (w := wr.drew) (hc2 1 _ rfl) id
      have e2 : ∀ p : Abv NoG wr.drew, p.val.cell? ⟨b2, o2 + j * 3 + 2, none⟩ = some (.int .i64 yp) := cell_abv (w := wr.drew) (hc2 2 _ rfl) id
      have a10' := cell_abv (G := NoG) (w := wr.drew) a10 id
      have b10' := cell_abv (G := NoG) (w := wr.drew) b10 id
      have HD := Lib.hid hd
      have HZ := Lib.hid (Up.trans HW.out HBW.out)
      clear hc1 hc2 hr1 hr2 hx hy hb1 hb2 hd hA1 hB1
      by_cases he : xd = yd ∧ xv = yv ∧ xp = yp
      · obtain ⟨rfl, rfl, rfl⟩ := he
        have hnx : sameQs qs qs' = sameQs (qs.drop (j + 1)) (qs'.drop (j + 1)) := by rw [hs.out, HD.out]; simp [sameQ]
        have HNX := Lib.hid hnx
        clear hnx
        go_wp2
        refine wp_region_plan NoG [(0, false), (1, false), (2, false), (3, false), (4, false), (5, false), (6, false), (7, false), (8, false), (9, false), (10, false)] (by kernel_rfl) (by kernel_rfl) ?_
        repeat (refine plan_take (by simp only [List.getElem?_toArray, List.getElem?_cons_succ, List.getElem?_cons_zero]; exact rfl) ?_; go_big_quiet_step (fail); refine wpQuiet_nil ?_)
        refine plan_end ?_
        go_wp2
        go_roundw
        case rel => exact ⟨j + 1, by omega, by go_num, HNX.out, HBW.out.drew⟩
        case measure => simp [intOf]; omega
      · have h3 : ¬ xd = yd ∨ (xd = yd ∧ ¬ xv = yv) ∨ (xd = yd ∧ xv = yv ∧ ¬ xp = yp) := by
          rcases Decidable.em (xd = yd) with h1 | h1
          · rcases Decidable.em (xv = yv) with h2 | h2
            · exact .inr (.inr ⟨h1, h2, fun h3 => he ⟨h1, h2, h3⟩⟩)
            · exact .inr (.inl ⟨h1, h2⟩)
          · exact .inl h1
        clear he
        rcases h3 with h3 | ⟨rfl, h3⟩ | ⟨rfl, rfl, h3⟩
        all_goals
          go_wp2
          refine wp_region_plan NoG [(0, false), (1, false), (2, false), (3, false), (4, false), (5, false), (6, false), (7, false), (8, false), (9, false), (10, false)] (by kernel_rfl) (by kernel_rfl) ?_
          repeat (refine plan_take (by simp only [List.getElem?_toArray, List.getElem?_cons_succ, List.getElem?_cons_zero]; exact rfl) ?_; go_big_quiet_step (fail); refine wpQuiet_nil ?_)
          refine plan_end ?_
          go_wp2
          go_ret
          exact ⟨rfl, HZ.out.drew⟩
  · have hne2 : ¬ (nq : Int) = nq' := by omega
    go_enter Try.func13, Try.ntmps13
    go_upto_region 1 with fail
    rw [← hW]
    clear hW
    go_wp2
    go_ret
    exact ⟨rfl, HW.out⟩
end Go.Proofs.Ytoplkglnjgllnaa
