/-
  The law TellBounds.
-/
import Derived.Test.YtoplkglnjgllnaaTellN
import Derived.Test.YtoplkglnjgllnaaLawB
namespace Go.Proofs.Ytoplkglnjgllnaa
open Go.RowKit
set_option linter.unusedVariables false
set_option linter.unusedSimpArgs false

theorem qidsElem : Elem Try.prog 24 23 (.agg #[.bool false, .int .i64 0, .int .i64 0]) 3 24 := elem_of Try.underlying24 (by kernel_rfl) rfl (by omega)
theorem RdR.made (w : World) (row : List Value) (k n : Nat) (hk : row.length = k) (hk0 : 0 < k) (e : TypeId) : RdR (w.alloc (.cells (madeCells row.toArray (n * k)) e)) (w.heap.size + 1) k (some ⟨w.heap.size, 0, none⟩) n (List.replicate n row) := by
  refine ⟨fun r hr => by rw [List.eq_of_mem_replicate hr, hk], by simp, fun hn => ⟨_, _, rfl, by omega, fun i j r v hr hv => ?_⟩⟩
  have hi : i < n := by
    have := (List.getElem?_eq_some_iff.1 hr).1
    simpa using this
  have hr' : r = row := by
    rw [List.getElem?_replicate, if_pos hi] at hr
    exact (Option.some.inj hr).symm
  subst hr'
  have hj : j < k := by rw [← hk]; exact (List.getElem?_eq_some_iff.1 hv).1
  have hlt : i * k + j < n * k := by
    have h1 : (i + 1) * k ≤ n * k := Nat.mul_le_mul_right k hi
    rw [Nat.add_mul] at h1
    omega
  have hm : (i * k + j) % k = j := by rw [Nat.add_comm, Nat.add_mul_mod_self_right, Nat.mod_eq_of_lt hj]
  have hh : (w.alloc (.cells (madeCells r.toArray (n * k)) e)).heap[w.heap.size]? = some (.cells (madeCells r.toArray (n * k)) e) := heap_alloc_new w _
  simp only [World.cell?, hh]
  have h2 : (madeCells r.toArray (n * k))[0 + i * k + j]? = some v := by
    rw [Nat.zero_add]
    unfold madeCells
    rw [Array.getElem?_map, Array.getElem?_range, if_pos hlt]
    simp only [Option.map_some, List.size_toArray, hk, hm]
    rw [← hv]
    simp [hj, hk]
  simpa using h2
/-- make of structs. -/
theorem wpList_makeR {P : Program} {w : World} {ops : Array Oper} {rest : List Oper} {o : Oper} {a : Act} {Q : Exit → Act → World → Prop} {t e : TypeId} {row : List Value} {k bytes : Nat} (el : Elem P t e (.agg row.toArray) k bytes) (hk : row.length = k)
    (hgd : o.guard = none) (x y : Operand) (ho : o.op = .makeSlice t x y) (kl kc : IntKind) (n : Nat) (hx : a.eval x = .int kl n) (hy : a.eval y = .int kc n) (hc : n ≤ 1048576) (hby : bytes ≤ 65536)
    (h : ∀ (g : Nat) (w' : World), RdR w' w'.heap.size k (some ⟨g, 0, none⟩) n (List.replicate n row) → Below w.heap.size w w' →
      wpList P ops Q rest (a.put o.dst (.slice (some ⟨g, 0, none⟩) n n)) w') : wpList P ops Q (o :: rest) a w := by
  obtain ⟨i, hi, hz, h2, h3⟩ := el.info
  have hr := run_make (P := P) w t e i (.agg row.toArray) el.ht hi hz kl kc n n (by omega) (by omega) (by
    rw [h3]
    have h5 := Nat.mul_le_mul hby hc
    have h6 : ((bytes * n : Nat) : Int) = (bytes : Int) * n := Int.natCast_mul _ _
    omega) (by omega)
  simp only [Int.toNat_natCast, h2] at hr
  refine wpList_plain hgd fun K hK => ?_
  unfold Oper.wp execOp
  simp only [ho, hx, hy, hr, Sem.run_bind, Result.andThen_ok, Sem.run_pure]
  exact hK _ _ (h w.heap.size _ ((RdR.made w row k n hk el.pos e).more (by simp)) ((Below.refl _ _).alloc (Nat.le_refl _) _))

theorem okM_101 (l : List UInt8) : layOk ⟨101, 0, 0, 0, 0, 0, l, ⟨false, 0, 0⟩, [], [], ⟨false, 0, 0⟩, 0, 0, []⟩ = decide (l.length ≤ 255) := by
  have h1 : partsM 101 = [0, 4] := rfl
  have h2 : (101 : Int) ∈ kindsW := by decide
  simp [layOk, layS, lay0, stepT, partT, partOk, h1, h2, sameT, bareT, sameQs, inB, qidZ]
theorem okM_125 (l : List UInt8) : layOk ⟨125, 0, 0, 0, 0, 0, [], ⟨false, 0, 0⟩, [], [], ⟨false, 0, 0⟩, 0, 0, l⟩ = decide (l.length ≤ 255) := by
  have h1 : partsM 125 = [8] := rfl
  have h2 : (125 : Int) ∈ kindsW := by decide
  simp [layOk, layS, lay0, stepT, partT, partOk, h1, h2, sameT, bareT, sameQs, inB, qidZ, statOk, qidOk]
theorem okM_117 (l : List UInt8) : layOk ⟨117, 0, 0, 0, 0, 0, [], ⟨false, 0, 0⟩, [], l, ⟨false, 0, 0⟩, 0, 0, []⟩ = decide (l.length ≤ 1024) := by
  have h1 : partsM 117 = [7] := rfl
  have h2 : (117 : Int) ∈ kindsW := by decide
  simp [layOk, layS, lay0, stepT, partT, partOk, h1, h2, sameT, bareT, sameQs, inB, qidZ]
theorem okM_111 (n : Nat) : layOk ⟨111, 0, 0, 0, 0, 0, [], ⟨false, 0, 0⟩, List.replicate n ⟨false, 0, 0⟩, [], ⟨false, 0, 0⟩, 0, 0, []⟩ = decide (n ≤ 8) := by
  have h1 : partsM 111 = [6] := rfl
  have h2 : (111 : Int) ∈ kindsW := by decide
  have h3 : (List.replicate n (⟨false, 0, 0⟩ : QidV)).all qidOk = true := by
    rw [List.all_eq_true]
    intro x hx
    rw [List.eq_of_mem_replicate hx]; rfl
  simp only [layOk, layS, lay0, h1, List.foldl_cons, List.foldl_nil, stepT, partT, partOk, qidsOk, h3]
  simp [h2, sameT, bareT, sameQs, inB, qidZ]

set_option maxRecDepth 20000 in
set_option maxHeartbeats 8000000 in
theorem tellBounds_walk (n m k : Int) (w : World) (b0 : -9223372036854775808 ≤ n) (t0 : n ≤ 9223372036854775807) (b1 : -9223372036854775808 ≤ m) (t1 : m ≤ 9223372036854775807) (b2 : -9223372036854775808 ≤ k) (t2 : k ≤ 9223372036854775807) :
    Calls Try.prog 5 #[.int .i64 n, .int .i64 m, .int .i64 k] w fun e w' => e = .returned (.bool true) ∧ Below w.heap.size w w' := by
  go_enter Try.func5, Try.ntmps5
  go_wp2_with fail
  refine (around_any n 11 _ b0 t0 (by omega) (by omega)).mono ?_
  rintro e w1 ⟨kn, _, hkn, rfl, rfl⟩
  obtain ⟨t, ht⟩ : ∃ t : Nat, (250 : Int) + kn = t := ⟨250 + kn, by omega⟩
  have htb : t ≤ 260 := by omega
  go_wp2_with fail
  refine (around_any m 11 _ b1 t1 (by omega) (by omega)).mono ?_
  rintro e w1 ⟨km, _, hkm, rfl, rfl⟩
  obtain ⟨d, hd⟩ : ∃ d : Nat, (1020 : Int) + km = d := ⟨1020 + km, by omega⟩
  have hdb : d ≤ 1030 := by omega
  go_wp2_with fail
  refine (around_any k 11 _ b2 t2 (by omega) (by omega)).mono ?_
  rintro e w1 ⟨kk, _, hkk, rfl, rfl⟩
  go_upto_region 4 with fail
  clear ht hd
  go_wp2_with (refine wpList_makeB bytesElem rfl (.tmp 23) (.tmp 23) rfl .i64 .i64 t t rfl rfl (Nat.le_refl _) (by omega) w.heap.size (Nat.le_refl _) ?_; intro g1 l1 w1 hl1 hown1 hb1; have hcv1 := str_of (c := t) hown1.rd (Below.refl _ _); simp only [Act.put, List.setIfInBounds_toArray, List.set_cons_succ, List.set_cons_zero])
  have hlen1 : l1.length = t := hown1.len
  refine (tMay_any 101 0 0 0 0 0 l1 false 0 0 [] [] false 0 0 0 0 [] none 0 0 none 0 0 w1 RdR.nil RdB.nil (by omega) (by omega) (by omega) (by simp)).mono ?_
  rintro e w2 ⟨ok1, hok1, rfl, hb2⟩
  have HB2 := Lib.hid (Up.trans hb1 hb2)
  have hr1 : ok1 = decide (t ≤ 255) := by rw [hok1.out, okM_101, hlen1]
  have HR1 := Lib.hid hr1
  clear hcv1 hl1 hown1 hb1 hb2 hok1 hr1
  go_wp2_with fail
  refine (tMay_any 125 0 0 0 0 0 [] false 0 0 [] [] false 0 0 0 0 l1 none 0 0 none 0 0 w2 RdR.nil RdB.nil (by omega) (by omega) (by simp) (by omega)).mono ?_
  rintro e w3 ⟨ok2, hok2, rfl, hb3⟩
  have HB3 := Lib.hid (Up.trans HB2.out hb3)
  have hr2 : ok2 = decide (t ≤ 255) := by rw [hok2.out, okM_125, hlen1]
  have HR2 := Lib.hid hr2
  clear hb3 hok2 hr2 hlen1
  go_wp2_with (refine wpList_makeB bytesElem rfl (.tmp 33) (.tmp 33) rfl .i64 .i64 d d rfl rfl (Nat.le_refl _) (by omega) w3.heap.size (Nat.le_refl _) ?_; intro g2 l2 w4 hl2 hown2 hb4; simp only [Act.put, List.setIfInBounds_toArray, List.set_cons_succ, List.set_cons_zero])
  have hlen2 : l2.length = d := hown2.len
  refine (tMay_any 117 0 0 0 0 0 [] false 0 0 [] l2 false 0 0 0 0 [] none 0 0 (some ⟨g2, 0, none⟩) d d w4 RdR.nil hown2.rd (by omega) (by omega) (by simp) (by simp)).mono ?_
  rintro e w5 ⟨ok3, hok3, rfl, hb5⟩
  have HB5 := Lib.hid (Up.trans (Up.trans HB3.out hb4) hb5)
  have hr3 : ok3 = decide (d ≤ 1024) := by rw [hok3.out, okM_117, hlen2]
  have HR3 := Lib.hid hr3
  clear hb4 hb5 hok3 hr3 hlen2 hown2 hl2
  go_wp2_with (refine wpList_makeR (row := [.bool false, .int .i64 0, .int .i64 0]) qidsElem rfl rfl (.tmp 37) (.tmp 37) rfl .i64 .i64 kk rfl rfl (by omega) (by omega) ?_; intro g3 w6 hrd6 hb6; simp only [Act.put, List.setIfInBounds_toArray, List.set_cons_succ, List.set_cons_zero])
  refine (tMay_any 111 0 0 0 0 0 [] false 0 0 (List.replicate kk ⟨false, 0, 0⟩) [] false 0 0 0 0 [] (some ⟨g3, 0, none⟩) kk kk none 0 0 w6 (by rw [List.map_replicate]; exact hrd6) RdB.nil (by omega) (by omega) (by simp) (by simp)).mono ?_
  rintro e w7 ⟨ok4, hok4, rfl, hb7⟩
  have HB7 := Lib.hid (Up.trans (Up.trans HB5.out hb6) hb7)
  have hr4 : ok4 = decide (kk ≤ 8) := by rw [hok4.out, okM_111]
  have HR4 := Lib.hid hr4
  clear hb6 hb7 hok4 hr4 hrd6
  have c1 : (ok1 = true ∧ ok2 = true ∧ decide ((t : Int) ≤ 255) = true) ∨ (ok1 = false ∧ ok2 = false ∧ decide ((t : Int) ≤ 255) = false) := by
    by_cases h : t ≤ 255
    · exact .inl ⟨by rw [HR1.out, decide_eq_true h], by rw [HR2.out, decide_eq_true h], decide_eq_true (by omega)⟩
    · exact .inr ⟨by rw [HR1.out, decide_eq_false h], by rw [HR2.out, decide_eq_false h], decide_eq_false (by omega)⟩
  have c3 : (ok3 = true ∧ decide ((d : Int) ≤ 1024) = true) ∨ (ok3 = false ∧ decide ((d : Int) ≤ 1024) = false) := by
    by_cases h : d ≤ 1024
    · exact .inl ⟨by rw [HR3.out, decide_eq_true h], decide_eq_true (by omega)⟩
    · exact .inr ⟨by rw [HR3.out, decide_eq_false h], decide_eq_false (by omega)⟩
  have c4 : (ok4 = true ∧ decide ((kk : Int) ≤ 8) = true) ∨ (ok4 = false ∧ decide ((kk : Int) ≤ 8) = false) := by
    by_cases h : kk ≤ 8
    · exact .inl ⟨by rw [HR4.out, decide_eq_true h], decide_eq_true (by omega)⟩
    · exact .inr ⟨by rw [HR4.out, decide_eq_false h], decide_eq_false (by omega)⟩
  clear HR1 HR2 HR3 HR4
  rcases c1 with ⟨rfl, rfl, ht⟩ | ⟨rfl, rfl, ht⟩ <;> rcases c3 with ⟨rfl, hd⟩ | ⟨rfl, hd⟩ <;> rcases c4 with ⟨rfl, hk⟩ | ⟨rfl, hk⟩
  all_goals
    go_wp2_with fail
    refine (lives18_any _).mono ?_
    rintro e w8 ⟨rfl, hb8⟩
    have HB8 := Lib.hid (Up.trans HB7.out hb8)
    clear hb8
    go_wp2
    go_ret
    exact ⟨rfl, HB8.out⟩
end Go.Proofs.Ytoplkglnjgllnaa
