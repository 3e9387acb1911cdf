/-
  Layer 19: a node's qid and stat.
-/
import Derived.Test.YtanafeeekofejaaStatB
import Derived.Deep.Cut
namespace Go.Proofs.Ytanafeeekofejaa
open Go.RowKit
set_option linter.unusedVariables false

theorem short_any (l : List UInt8) (most : Nat) (w : World) (hl : l.length ≤ 9223372036854775807) (hm : most ≤ 1048576) :
    Calls Try.prog 20 #[.string (st l), .int .i64 most] w fun e w' => e = .returned (.string (st (l.take most))) ∧ w = w' := by
  by_cases h : most < l.length
  · have hx : (st l).extract 0 most = st (l.take most) := by
      apply ByteArray.ext
      simp [st, List.extract_eq_take_drop]
    generalize l.take most = q at hx
    go_enter Try.func20, Try.ntmps20
    go_wp2
    go_ret
    exact ⟨rfl, rfl⟩
  · have e : l.take most = l := List.take_of_length_le (by omega)
    rw [e]
    clear e
    go_enter Try.func20, Try.ntmps20
    go_wp2
    go_ret
    exact ⟨rfl, rfl⟩

theorem i64_or (a b : Nat) (ha : a < 9223372036854775808) (hb : b < 9223372036854775808) : bits .or .i64 (a : Int) (b : Int) = ((a ||| b : Nat) : Int) := by
  have hx : a ||| b < 2 ^ 63 := Nat.or_lt_two_pow (by omega) (by omega)
  show IntKind.i64.wrap ((BitVec.ofInt 64 (a : Int) ||| BitVec.ofInt 64 (b : Int)).toNat : Int) = _
  rw [BitVec.toNat_or, ofInt_i64 a ha, ofInt_i64 b hb]
  exact wrap_i64_nat _ (by omega)
theorem or_dir (m : Nat) (h : m < 512) : bits .or .i64 2147483648 (m : Int) = 2147483648 + m := by
  have e : bits .or .i64 ((2147483648 : Nat) : Int) (m : Int) = ((2147483648 ||| m : Nat) : Int) := i64_or _ _ (by omega) (by omega)
  have h2 := Nat.shiftLeft_add_eq_or_of_lt (a := 1) (i := 31) (b := m) (by omega)
  have h3 : (1 : Nat) <<< 31 = 2147483648 := by decide
  rw [h3] at h2
  rw [← h2] at e
  have e' : bits .or .i64 2147483648 (m : Int) = ((2147483648 + m : Nat) : Int) := e
  rw [e']
  omega
theorem or_zero (m : Nat) (h : m < 512) : bits .or .i64 0 (m : Int) = m := by
  have e : bits .or .i64 ((0 : Nat) : Int) (m : Int) = ((0 ||| m : Nat) : Int) := i64_or _ _ (by omega) (by omega)
  rw [Nat.zero_or] at e
  exact e

theorem qid_any (ino gen kind mode size : Int) (w : World) :
    Calls Try.prog 21 #[.agg #[.int .i64 ino, .int .i64 gen, .int .i64 kind, .int .i64 mode, .int .i64 size]] w fun e w' => e = .returned (.agg #[.bool (kind == 1), .int .i64 gen, .int .i64 ino]) ∧ Below w.heap.size w w' := by
  go_enter Try.func21, Try.ntmps21
  go_wp2
  exact bodyPost_ret (v := .agg #[.bool (kind == 1), .int .i64 gen, .int .i64 ino]) (by simp [results, Try.results21, go_sem]) rfl ⟨rfl, ((Below.refl _ _).alloc (Nat.le_refl _) _).alloc (by simp) _⟩

theorem refQid_any (ino gen kind mode size : Int) (w : World) :
    Calls Try.prog 22 #[.agg #[.int .i64 ino, .int .i64 gen, .int .i64 kind, .int .i64 mode, .int .i64 size]] w fun e w' => e = .returned (.agg #[.bool (kind == 1), .int .i64 gen, .int .i64 ino]) ∧ Below w.heap.size w w' := by
  go_enter Try.func22, Try.ntmps22
  go_wp2
  exact bodyPost_ret (v := .agg #[.bool (kind == 1), .int .i64 gen, .int .i64 ino]) (by simp [results, Try.results22, go_sem]) rfl ⟨rfl, ((Below.refl _ _).alloc (Nat.le_refl _) _).alloc (by simp) _⟩

/-- A node's stat. -/
def statV (s : List UInt8) (ino gen kind : Int) (mode : Nat) (size : Int) : Value :=
  .agg #[.bool (kind == 1), .int .i64 gen, .int .i64 ino, .int .i64 (if kind = 1 then 2147483648 + mode else mode), .int .i64 (if kind = 1 then 0 else size), .string (st s)]

set_option maxRecDepth 100000 in
set_option maxHeartbeats 1000000 in
theorem of_any (s : List UInt8) (ino gen kind : Int) (mode : Nat) (size : Int) (w : World) (hm : mode < 512) :
    Calls Try.prog 23 #[.string (st s), .agg #[.int .i64 ino, .int .i64 gen, .int .i64 kind, .int .i64 mode, .int .i64 size]] w fun e w' => e = .returned (statV s ino gen kind mode size) ∧ Below w.heap.size w w' := by
  have g40 : Try.prog.eqGuardType Try.prog.depth 40 = false := by kernel_rfl
  have s40 : Try.prog.stoodInHeld 40 = false := by kernel_rfl
  have hor := or_dir mode hm
  have hoz := or_zero mode hm
  generalize hV : statV s ino gen kind mode size = V
  unfold statV at hV
  by_cases hk : kind = 1
  · subst hk
    rw [if_pos rfl, if_pos rfl] at hV
    subst hV
    go_enter Try.func23, Try.ntmps23
    go_wp2_with fail
    refine (qid_any ino gen 1 mode size _).mono ?_
    rintro e w2 ⟨rfl, hb2⟩
    have hz := hb2.size
    have hB : Blk w2 w.heap.size 34 _ := ((Blk.new w 34 [.int .i64 ino, .int .i64 gen, .int .i64 1, .int .i64 mode, .int .i64 size]).alloc _).up hb2
    have hR : Blk w2 (w.heap.size + 1) 43 [.bool false, .int .i64 0, .int .i64 0, .int .i64 0, .int .i64 0, .string ⟨#[]⟩] := by
      have h := (Blk.new (w.alloc (.cells #[.int .i64 ino, .int .i64 gen, .int .i64 1, .int .i64 mode, .int .i64 size] 34)) 43 [.bool false, .int .i64 0, .int .i64 0, .int .i64 0, .int .i64 0, .string ⟨#[]⟩]).up hb2
      simpa using h
    have hzz : w.heap.size + 2 ≤ w2.heap.size := by simpa using hz
    have hlt1 : w.heap.size < w2.heap.size := by omega
    have hlt2 : w.heap.size + 1 < w2.heap.size := by omega
    have k0 := hB.cell 0 _ rfl
    have k1 := hB.cell 1 _ rfl
    have k2 := hB.cell 2 _ rfl
    have k3 := hB.cell 3 _ rfl
    have k4 := hB.cell 4 _ rfl
    have hb0 : Below w.heap.size w w2 := (((Below.refl _ _).alloc (Nat.le_refl _) _).alloc (by simp) _).trans (hb2.mono (by simp; omega))
    have HB0 := Lib.hid hb0
    have HR := Lib.hid hR
    clear hb2 hz hB hR hb0
    go_upto_region 8 with (fail)
    repeat (first | (refine wpList_storeBlk rfl (.tmp 4) (.tmp 34) rfl rfl [.bool true, .int .i64 gen, .int .i64 ino, .int .i64 (2147483648 + mode), .int .i64 0, .string (st s)] rfl rfl (by kernel_rfl) (HR.out.alloc _) rfl (by simp [Value.oneCell']) ?_) | go_step)
    have hb9 := below_setRow (HB0.out.alloc HB0.out.size (.cells #[.bool true, .int .i64 gen, .int .i64 ino, .int .i64 (2147483648 + mode), .int .i64 0, .string (st s)] 43)) (g := w.heap.size + 1) (by omega) #[.bool true, .int .i64 gen, .int .i64 ino, .int .i64 (2147483648 + mode), .int .i64 0, .string (st s)]
    have hB9 := (HR.out.alloc (.cells #[.bool true, .int .i64 gen, .int .i64 ino, .int .i64 (2147483648 + mode), .int .i64 0, .string (st s)] 43)).setRow [.bool true, .int .i64 gen, .int .i64 ino, .int .i64 (2147483648 + mode), .int .i64 0, .string (st s)]
    have q0 := hB9.cell 0 _ rfl
    have q1 := hB9.cell 1 _ rfl
    have q2 := hB9.cell 2 _ rfl
    have q3 := hB9.cell 3 _ rfl
    have q4 := hB9.cell 4 _ rfl
    have q5 := hB9.cell 5 _ rfl
    clear hB9
    generalize (w2.alloc (.cells #[.bool true, .int .i64 gen, .int .i64 ino, .int .i64 (2147483648 + mode), .int .i64 0, .string (st s)] 43)).setRow (w.heap.size + 1) #[.bool true, .int .i64 gen, .int .i64 ino, .int .i64 (2147483648 + mode), .int .i64 0, .string (st s)] = W at hb9 q0 q1 q2 q3 q4 q5
    exact bodyPost_ret (v := .agg #[.bool true, .int .i64 gen, .int .i64 ino, .int .i64 (2147483648 + mode), .int .i64 0, .string (st s)]) (by simp [results, Try.results23, go_sem, q0, q1, q2, q3, q4, q5]) rfl ⟨rfl, hb9⟩
  · have hd : (kind == 1) = false := by simpa using hk
    rw [if_neg hk, if_neg hk, hd] at hV
    subst hV
    clear hk
    go_enter Try.func23, Try.ntmps23
    go_wp2_with fail
    refine (qid_any ino gen kind mode size _).mono ?_
    rintro e w2 ⟨rfl, hb2⟩
    have hz := hb2.size
    have hB : Blk w2 w.heap.size 34 _ := ((Blk.new w 34 [.int .i64 ino, .int .i64 gen, .int .i64 kind, .int .i64 mode, .int .i64 size]).alloc _).up hb2
    have hR : Blk w2 (w.heap.size + 1) 43 [.bool false, .int .i64 0, .int .i64 0, .int .i64 0, .int .i64 0, .string ⟨#[]⟩] := by
      have h := (Blk.new (w.alloc (.cells #[.int .i64 ino, .int .i64 gen, .int .i64 kind, .int .i64 mode, .int .i64 size] 34)) 43 [.bool false, .int .i64 0, .int .i64 0, .int .i64 0, .int .i64 0, .string ⟨#[]⟩]).up hb2
      simpa using h
    have hzz : w.heap.size + 2 ≤ w2.heap.size := by simpa using hz
    have hlt1 : w.heap.size < w2.heap.size := by omega
    have hlt2 : w.heap.size + 1 < w2.heap.size := by omega
    have k0 := hB.cell 0 _ rfl
    have k1 := hB.cell 1 _ rfl
    have k2 := hB.cell 2 _ rfl
    have k3 := hB.cell 3 _ rfl
    have k4 := hB.cell 4 _ rfl
    have hb0 : Below w.heap.size w w2 := (((Below.refl _ _).alloc (Nat.le_refl _) _).alloc (by simp) _).trans (hb2.mono (by simp; omega))
    have HB0 := Lib.hid hb0
    have HR := Lib.hid hR
    clear hb2 hz hB hR hb0
    go_upto_region 8 with (fail)
    repeat (first | (refine wpList_storeBlk rfl (.tmp 4) (.tmp 34) rfl rfl [.bool false, .int .i64 gen, .int .i64 ino, .int .i64 mode, .int .i64 size, .string (st s)] rfl rfl (by kernel_rfl) (HR.out.alloc _) rfl (by simp [Value.oneCell']) ?_) | go_step)
    have hb9 := below_setRow (HB0.out.alloc HB0.out.size (.cells #[.bool false, .int .i64 gen, .int .i64 ino, .int .i64 mode, .int .i64 size, .string (st s)] 43)) (g := w.heap.size + 1) (by omega) #[.bool false, .int .i64 gen, .int .i64 ino, .int .i64 mode, .int .i64 size, .string (st s)]
    have hB9 := (HR.out.alloc (.cells #[.bool false, .int .i64 gen, .int .i64 ino, .int .i64 mode, .int .i64 size, .string (st s)] 43)).setRow [.bool false, .int .i64 gen, .int .i64 ino, .int .i64 mode, .int .i64 size, .string (st s)]
    have q0 := hB9.cell 0 _ rfl
    have q1 := hB9.cell 1 _ rfl
    have q2 := hB9.cell 2 _ rfl
    have q3 := hB9.cell 3 _ rfl
    have q4 := hB9.cell 4 _ rfl
    have q5 := hB9.cell 5 _ rfl
    clear hB9
    generalize (w2.alloc (.cells #[.bool false, .int .i64 gen, .int .i64 ino, .int .i64 mode, .int .i64 size, .string (st s)] 43)).setRow (w.heap.size + 1) #[.bool false, .int .i64 gen, .int .i64 ino, .int .i64 mode, .int .i64 size, .string (st s)] = W at hb9 q0 q1 q2 q3 q4 q5
    exact bodyPost_ret (v := .agg #[.bool false, .int .i64 gen, .int .i64 ino, .int .i64 mode, .int .i64 size, .string (st s)]) (by simp [results, Try.results23, go_sem, q0, q1, q2, q3, q4, q5]) rfl ⟨rfl, hb9⟩

theorem keeps_setRow (w : World) {g : Nat} (cs : Array Value) : Keeps (Is g) w (w.setRow g cs) :=
  ⟨rfl, rfl, rfl, by simp, fun k _ hn => setRow_other w g k _ (fun e => hn e)⟩

set_option maxRecDepth 100000 in
set_option maxHeartbeats 2000000 in
theorem refOf_any (s : List UInt8) (ino gen kind : Int) (mode : Nat) (size : Int) (w : World) (hm : mode < 512) :
    Calls Try.prog 24 #[.string (st s), .agg #[.int .i64 ino, .int .i64 gen, .int .i64 kind, .int .i64 mode, .int .i64 size]] w fun e w' => e = .returned (statV s ino gen kind mode size) ∧ Below w.heap.size w w' := by
  generalize hV : statV s ino gen kind mode size = V
  unfold statV at hV
  have hw : IntKind.i64.wrap ((mode : Int) + 2147483648) = (mode : Int) + 2147483648 := IntWalk.i64_in _ (by omega)
  by_cases hk : kind = 1
  · subst hk
    rw [if_pos rfl, if_pos rfl, Int.add_comm] at hV
    subst hV
    go_enter Try.func24, Try.ntmps24
    have hB : Blk ((w.alloc (.cells #[.int .i64 ino, .int .i64 gen, .int .i64 1, .int .i64 mode, .int .i64 size] 34)).alloc (.cells #[.bool false, .int .i64 0, .int .i64 0, .int .i64 0, .int .i64 0, .string ⟨#[]⟩] 43)).drew w.heap.size 34 [.int .i64 ino, .int .i64 gen, .int .i64 1, .int .i64 mode, .int .i64 size] := (((Blk.new w 34 [.int .i64 ino, .int .i64 gen, .int .i64 1, .int .i64 mode, .int .i64 size]).alloc _)).drew
    have hR : Blk ((w.alloc (.cells #[.int .i64 ino, .int .i64 gen, .int .i64 1, .int .i64 mode, .int .i64 size] 34)).alloc (.cells #[.bool false, .int .i64 0, .int .i64 0, .int .i64 0, .int .i64 0, .string ⟨#[]⟩] 43)).drew (w.heap.size + 1) 43 [.bool false, .int .i64 0, .int .i64 0, .int .i64 0, .int .i64 0, .string ⟨#[]⟩] := by
      have h := Blk.new (w.alloc (.cells #[.int .i64 ino, .int .i64 gen, .int .i64 1, .int .i64 mode, .int .i64 size] 34)) 43 [.bool false, .int .i64 0, .int .i64 0, .int .i64 0, .int .i64 0, .string ⟨#[]⟩]
      have e : (w.alloc (.cells #[.int .i64 ino, .int .i64 gen, .int .i64 1, .int .i64 mode, .int .i64 size] 34)).heap.size = w.heap.size + 1 := by simp
      rw [e] at h
      exact h.drew
    have hb0 : Below w.heap.size w ((w.alloc (.cells #[.int .i64 ino, .int .i64 gen, .int .i64 1, .int .i64 mode, .int .i64 size] 34)).alloc (.cells #[.bool false, .int .i64 0, .int .i64 0, .int .i64 0, .int .i64 0, .string ⟨#[]⟩] 43)).drew := (((Below.refl _ _).alloc (Nat.le_refl _) _).alloc (by simp) _).drew
    have hs0 : ((w.alloc (.cells #[.int .i64 ino, .int .i64 gen, .int .i64 1, .int .i64 mode, .int .i64 size] 34)).alloc (.cells #[.bool false, .int .i64 0, .int .i64 0, .int .i64 0, .int .i64 0, .string ⟨#[]⟩] 43)).drew.heap.size = w.heap.size + 2 := by simp
    go_wp2
    refine wp_region_plan (Is (w.heap.size + 1)) [(0, false), (2, false), (3, false), (4, false), (5, false), (1, true), (6, true), (7, true)] (by kernel_rfl) (by kernel_rfl) ?_
    generalize ((w.alloc (.cells #[.int .i64 ino, .int .i64 gen, .int .i64 1, .int .i64 mode, .int .i64 size] 34)).alloc (.cells #[.bool false, .int .i64 0, .int .i64 0, .int .i64 0, .int .i64 0, .string ⟨#[]⟩] 43)).drew = w1 at hB hR hb0 hs0
    have hni : ¬ Is (w.heap.size + 1) w.heap.size := by intro h; have : w.heap.size = w.heap.size + 1 := h; omega
    have c0 := cell_abv (G := Is (w.heap.size + 1)) (hB.cell 0 _ rfl) hni
    have c1 := cell_abv (G := Is (w.heap.size + 1)) (hB.cell 1 _ rfl) hni
    have c2 := cell_abv (G := Is (w.heap.size + 1)) (hB.cell 2 _ rfl) hni
    have c3 := cell_abv (G := Is (w.heap.size + 1)) (hB.cell 3 _ rfl) hni
    have c4 := cell_abv (G := Is (w.heap.size + 1)) (hB.cell 4 _ rfl) hni
    repeat (refine plan_take (by simp only [List.getElem?_toArray, List.getElem?_cons_succ, List.getElem?_cons_zero]; exact rfl) ?_; go_big_quiet_step (fail); refine wpQuiet_nil ?_)
    refine plan_solo (by simp only [List.getElem?_toArray, List.getElem?_cons_succ, List.getElem?_cons_zero]; exact rfl) ?_
    go_wp2_with fail
    refine (refQid_any ino gen 1 mode size _).mono ?_
    rintro e w2 ⟨rfl, hb2⟩
    have hR2 := hR.up hb2
    have hb02 := hb0.trans (hb2.mono hb0.size)
    have hz2 : w.heap.size + 2 ≤ w2.heap.size := by rw [← hs0]; exact hb2.size
    have HR2 := Lib.hid hR2
    clear c0 c1 c2 c3 c4 hB hR hb0 hR2 hs0
    go_wp2
    refine Solo.up hb2 ?_
    clear hb2
    repeat (refine plan_take (by simp only [List.getElem?_toArray, List.getElem?_cons_succ, List.getElem?_cons_zero]; exact rfl) ?_; go_big_quiet_step (fail); refine wpQuiet_nil ?_)
    refine plan_solo (by simp only [List.getElem?_toArray, List.getElem?_cons_succ, List.getElem?_cons_zero]; exact rfl) ?_
    go_wp2
    refine Solo.up (Below.refl _ _) ?_
    repeat (refine plan_take (by simp only [List.getElem?_toArray, List.getElem?_cons_succ, List.getElem?_cons_zero]; exact rfl) ?_; go_big_quiet_step (fail); refine wpQuiet_nil ?_)
    refine plan_solo (by simp only [List.getElem?_toArray, List.getElem?_cons_succ, List.getElem?_cons_zero]; exact rfl) ?_
    refine wpList_storeBlk rfl (.tmp 4) (.tmp 14) rfl rfl [.bool true, .int .i64 gen, .int .i64 ino, .int .i64 (mode + 2147483648), .int .i64 0, .string (st s)] rfl rfl (by kernel_rfl) HR2.out rfl (by simp [Value.oneCell']) ?_
    refine wpList_nil ?_
    refine Solo.mk (keeps_setRow _ _) ?_
    repeat (refine plan_take (by simp only [List.getElem?_toArray, List.getElem?_cons_succ, List.getElem?_cons_zero]; exact rfl) ?_; go_big_quiet_step (fail); refine wpQuiet_nil ?_)
    refine plan_end ?_
    go_wp2
    have hb9 := below_setRow hb02 (g := w.heap.size + 1) (by omega) #[.bool true, .int .i64 gen, .int .i64 ino, .int .i64 (mode + 2147483648), .int .i64 0, .string (st s)]
    have hB9 := HR2.out.setRow [.bool true, .int .i64 gen, .int .i64 ino, .int .i64 (mode + 2147483648), .int .i64 0, .string (st s)]
    have q0 := hB9.cell 0 _ rfl
    have q1 := hB9.cell 1 _ rfl
    have q2 := hB9.cell 2 _ rfl
    have q3 := hB9.cell 3 _ rfl
    have q4 := hB9.cell 4 _ rfl
    have q5 := hB9.cell 5 _ rfl
    clear hB9
    generalize w2.setRow (w.heap.size + 1) #[.bool true, .int .i64 gen, .int .i64 ino, .int .i64 (mode + 2147483648), .int .i64 0, .string (st s)] = W at hb9 q0 q1 q2 q3 q4 q5
    exact bodyPost_ret (v := .agg #[.bool true, .int .i64 gen, .int .i64 ino, .int .i64 (mode + 2147483648), .int .i64 0, .string (st s)]) (by simp [results, Try.results24, go_sem, q0, q1, q2, q3, q4, q5]) rfl ⟨rfl, hb9⟩
  · have hd : (kind == 1) = false := by simpa using hk
    rw [if_neg hk, if_neg hk, hd] at hV
    subst hV
    clear hk
    go_enter Try.func24, Try.ntmps24
    have hB : Blk ((w.alloc (.cells #[.int .i64 ino, .int .i64 gen, .int .i64 kind, .int .i64 mode, .int .i64 size] 34)).alloc (.cells #[.bool false, .int .i64 0, .int .i64 0, .int .i64 0, .int .i64 0, .string ⟨#[]⟩] 43)).drew w.heap.size 34 [.int .i64 ino, .int .i64 gen, .int .i64 kind, .int .i64 mode, .int .i64 size] := (((Blk.new w 34 [.int .i64 ino, .int .i64 gen, .int .i64 kind, .int .i64 mode, .int .i64 size]).alloc _)).drew
    have hR : Blk ((w.alloc (.cells #[.int .i64 ino, .int .i64 gen, .int .i64 kind, .int .i64 mode, .int .i64 size] 34)).alloc (.cells #[.bool false, .int .i64 0, .int .i64 0, .int .i64 0, .int .i64 0, .string ⟨#[]⟩] 43)).drew (w.heap.size + 1) 43 [.bool false, .int .i64 0, .int .i64 0, .int .i64 0, .int .i64 0, .string ⟨#[]⟩] := by
      have h := Blk.new (w.alloc (.cells #[.int .i64 ino, .int .i64 gen, .int .i64 kind, .int .i64 mode, .int .i64 size] 34)) 43 [.bool false, .int .i64 0, .int .i64 0, .int .i64 0, .int .i64 0, .string ⟨#[]⟩]
      have e : (w.alloc (.cells #[.int .i64 ino, .int .i64 gen, .int .i64 kind, .int .i64 mode, .int .i64 size] 34)).heap.size = w.heap.size + 1 := by simp
      rw [e] at h
      exact h.drew
    have hb0 : Below w.heap.size w ((w.alloc (.cells #[.int .i64 ino, .int .i64 gen, .int .i64 kind, .int .i64 mode, .int .i64 size] 34)).alloc (.cells #[.bool false, .int .i64 0, .int .i64 0, .int .i64 0, .int .i64 0, .string ⟨#[]⟩] 43)).drew := (((Below.refl _ _).alloc (Nat.le_refl _) _).alloc (by simp) _).drew
    have hs0 : ((w.alloc (.cells #[.int .i64 ino, .int .i64 gen, .int .i64 kind, .int .i64 mode, .int .i64 size] 34)).alloc (.cells #[.bool false, .int .i64 0, .int .i64 0, .int .i64 0, .int .i64 0, .string ⟨#[]⟩] 43)).drew.heap.size = w.heap.size + 2 := by simp
    go_wp2
    refine wp_region_plan (Is (w.heap.size + 1)) [(0, false), (2, false), (3, false), (4, false), (5, false), (6, false), (1, true), (7, true), (8, true)] (by kernel_rfl) (by kernel_rfl) ?_
    generalize ((w.alloc (.cells #[.int .i64 ino, .int .i64 gen, .int .i64 kind, .int .i64 mode, .int .i64 size] 34)).alloc (.cells #[.bool false, .int .i64 0, .int .i64 0, .int .i64 0, .int .i64 0, .string ⟨#[]⟩] 43)).drew = w1 at hB hR hb0 hs0
    have hni : ¬ Is (w.heap.size + 1) w.heap.size := by intro h; have : w.heap.size = w.heap.size + 1 := h; omega
    have c0 := cell_abv (G := Is (w.heap.size + 1)) (hB.cell 0 _ rfl) hni
    have c1 := cell_abv (G := Is (w.heap.size + 1)) (hB.cell 1 _ rfl) hni
    have c2 := cell_abv (G := Is (w.heap.size + 1)) (hB.cell 2 _ rfl) hni
    have c3 := cell_abv (G := Is (w.heap.size + 1)) (hB.cell 3 _ rfl) hni
    have c4 := cell_abv (G := Is (w.heap.size + 1)) (hB.cell 4 _ rfl) hni
    repeat (refine plan_take (by simp only [List.getElem?_toArray, List.getElem?_cons_succ, List.getElem?_cons_zero]; exact rfl) ?_; go_big_quiet_step (fail); refine wpQuiet_nil ?_)
    refine plan_solo (by simp only [List.getElem?_toArray, List.getElem?_cons_succ, List.getElem?_cons_zero]; exact rfl) ?_
    go_wp2_with fail
    refine (refQid_any ino gen kind mode size _).mono ?_
    rintro e w2 ⟨rfl, hb2⟩
    have hR2 := hR.up hb2
    have hb02 := hb0.trans (hb2.mono hb0.size)
    have hz2 : w.heap.size + 2 ≤ w2.heap.size := by rw [← hs0]; exact hb2.size
    have HR2 := Lib.hid hR2
    clear c0 c1 c2 c3 c4 hB hR hb0 hR2 hs0
    go_wp2
    refine Solo.up hb2 ?_
    clear hb2
    repeat (refine plan_take (by simp only [List.getElem?_toArray, List.getElem?_cons_succ, List.getElem?_cons_zero]; exact rfl) ?_; go_big_quiet_step (fail); refine wpQuiet_nil ?_)
    refine plan_solo (by simp only [List.getElem?_toArray, List.getElem?_cons_succ, List.getElem?_cons_zero]; exact rfl) ?_
    go_wp2
    refine Solo.up (Below.refl _ _) ?_
    repeat (refine plan_take (by simp only [List.getElem?_toArray, List.getElem?_cons_succ, List.getElem?_cons_zero]; exact rfl) ?_; go_big_quiet_step (fail); refine wpQuiet_nil ?_)
    refine plan_solo (by simp only [List.getElem?_toArray, List.getElem?_cons_succ, List.getElem?_cons_zero]; exact rfl) ?_
    refine wpList_storeBlk rfl (.tmp 4) (.tmp 22) rfl rfl [.bool false, .int .i64 gen, .int .i64 ino, .int .i64 mode, .int .i64 size, .string (st s)] rfl rfl (by kernel_rfl) HR2.out rfl (by simp [Value.oneCell']) ?_
    refine wpList_nil ?_
    refine Solo.mk (keeps_setRow _ _) ?_
    repeat (refine plan_take (by simp only [List.getElem?_toArray, List.getElem?_cons_succ, List.getElem?_cons_zero]; exact rfl) ?_; go_big_quiet_step (fail); refine wpQuiet_nil ?_)
    refine plan_end ?_
    go_wp2
    have hb9 := below_setRow hb02 (g := w.heap.size + 1) (by omega) #[.bool false, .int .i64 gen, .int .i64 ino, .int .i64 mode, .int .i64 size, .string (st s)]
    have hB9 := HR2.out.setRow [.bool false, .int .i64 gen, .int .i64 ino, .int .i64 mode, .int .i64 size, .string (st s)]
    have q0 := hB9.cell 0 _ rfl
    have q1 := hB9.cell 1 _ rfl
    have q2 := hB9.cell 2 _ rfl
    have q3 := hB9.cell 3 _ rfl
    have q4 := hB9.cell 4 _ rfl
    have q5 := hB9.cell 5 _ rfl
    clear hB9
    generalize w2.setRow (w.heap.size + 1) #[.bool false, .int .i64 gen, .int .i64 ino, .int .i64 mode, .int .i64 size, .string (st s)] = W at hb9 q0 q1 q2 q3 q4 q5
    exact bodyPost_ret (v := .agg #[.bool false, .int .i64 gen, .int .i64 ino, .int .i64 mode, .int .i64 size, .string (st s)]) (by simp [results, Try.results24, go_sem, q0, q1, q2, q3, q4, q5]) rfl ⟨rfl, hb9⟩
end Go.Proofs.Ytanafeeekofejaa
