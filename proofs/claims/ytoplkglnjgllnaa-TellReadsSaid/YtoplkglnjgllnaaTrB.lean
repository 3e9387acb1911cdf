/-
  Layer 18's helpers: which fields are laid; a type, a number of 32 bits, made of any.
  Layer 18's helper Own.
  Layer 18's helper good: a qid made of any.
  Layer 2, in plain Lean: the bytes of numbers, the lowest first; a reader's states; messages split.
  Layer 2: numbers laid behind bytes.
  Layer 2: the numbers' functions, texts, data, messages; the reference's.
  Layer 2: the reference's numbers, texts, data, messages.
  Layer 2: the reader.
  Layer 2: the reader's texts and data, its end; bytes.Clone; Read.
  Layer 2, in plain Lean: what is laid is read as it was.
  Layer 2: the reference's reader.
-/
import Derived.Test.YtoplkglnjgllnaaTrA
import Derived.Deep.CutBlock
import Derived.WalkKit
import Derived.Deep.RegionWith
namespace Go.Proofs.Ytoplkglnjgllnaa
open Go.RowKit
set_option linter.unusedVariables false
set_option linter.unusedSimpArgs false

def kindsW : List Int := [101, 105, 107, 109, 111, 113, 115, 117, 119, 121, 123, 125, 127]
def fieldsW : List (List UInt8) := [[122, 110], [113], [101], [45], [108], [113, 105], [113, 105], [100], [99], [45], [45], [115], [45]]
/-- The fields that are laid of a type. -/
def fieldsM (k : Int) : List UInt8 := (fieldsW[kindsW.findIdx (· == k)]?).getD []
def hasM (k : Int) (f : UInt8) : Bool := (fieldsM k).contains f
/-- A type, made of any number. -/
def kindB (n : Int) : Int := (kindsW[(up0 n % 13).toNat]?).getD 0
def FdRelT (w : World) (k : Int) (i : Value) (wr : World) : Prop := ∃ j : Nat, j ≤ 13 ∧ i = .int .i64 j ∧ wr = w ∧ j ≤ kindsW.findIdx (· == k)
set_option maxRecDepth 100000 in
set_option maxHeartbeats 2000000 in
theorem tFields_any (k : Int) (w : World) : Calls Try.prog 34 #[.int .i64 k] w fun e w' => e = .returned (.string (st (fieldsM k))) ∧ Below w.heap.size w w' := by
  have hB1 := Blk.new w 3 (kindsW.map (Value.int .i64))
  have hB2 := Blk.new (w.alloc (.cells (kindsW.map (Value.int .i64)).toArray 3)) 9 (sv fieldsW)
  have hb : Below w.heap.size w ((w.alloc (.cells (kindsW.map (Value.int .i64)).toArray 3)).alloc (.cells (sv fieldsW).toArray 9)) := ((Below.refl _ _).alloc (Nat.le_refl _) _).alloc (by simp) _
  have hB1' := hB1.alloc (.cells (sv fieldsW).toArray 9)
  have hs : (w.alloc (.cells (kindsW.map (Value.int .i64)).toArray 3)).heap.size = w.heap.size + 1 := by simp
  rw [hs] at hB2
  obtain ⟨W, hW⟩ : ∃ W, W = (w.alloc (.cells (kindsW.map (Value.int .i64)).toArray 3)).alloc (.cells (sv fieldsW).toArray 9) := ⟨_, rfl⟩
  rw [← hW] at hB1' hB2 hb
  have HB1 := Lib.hid hB1'
  have HB2 := Lib.hid hB2
  have HB := Lib.hid hb
  have hW2 : W = (w.alloc (.cells #[.int .i64 101, .int .i64 105, .int .i64 107, .int .i64 109, .int .i64 111, .int .i64 113, .int .i64 115, .int .i64 117, .int .i64 119, .int .i64 121, .int .i64 123, .int .i64 125, .int .i64 127] 3)).alloc (.cells #[.string ⟨#[122, 110]⟩, .string ⟨#[113]⟩, .string ⟨#[101]⟩, .string ⟨#[45]⟩, .string ⟨#[108]⟩, .string ⟨#[113, 105]⟩, .string ⟨#[113, 105]⟩, .string ⟨#[100]⟩, .string ⟨#[99]⟩, .string ⟨#[45]⟩, .string ⟨#[45]⟩, .string ⟨#[115]⟩, .string ⟨#[45]⟩] 9) := hW
  clear hB1 hB2 hb hB1' hW hs
  go_enter Try.func34, Try.ntmps34
  go_wp2
  rw [← hW2]
  clear hW2
  go_loopw [5] (fun i wr => FdRelT W k i wr) (fun i _ => 13 - (intOf i).toNat)
  case atStart => exact ⟨0, by omega, rfl, rfl, by omega⟩
  case round =>
    obtain ⟨j, hj, rfl, rfl, hf⟩ := hrel
    by_cases hlt : j < 13
    · have j0 : (0 : Int) ≤ j := by omega
      have j1 : (j : Int) < 13 := by omega
      have hkl : kindsW.length = 13 := rfl
      have hjl : j < kindsW.length := by omega
      obtain ⟨x, hx⟩ : ∃ x, kindsW[j]? = some x := ⟨_, List.getElem?_eq_getElem hjl⟩
      have hfl : fieldsW.length = 13 := rfl
      obtain ⟨y, hy⟩ : ∃ y, fieldsW[j]? = some y := ⟨_, List.getElem?_eq_getElem (by omega)⟩
      have kc := HB1.out.cell j (.int .i64 x) (by rw [List.getElem?_map, hx]; rfl)
      have kd := HB2.out.cell j (.string (st y)) (by rw [sv_at, hy]; rfl)
      have hxe : kindsW[j] = x := by rw [List.getElem?_eq_getElem hjl] at hx; exact Option.some.inj hx
      by_cases he : x = k
      · have hidx : kindsW.findIdx (· == k) = j := Nat.le_antisymm (by
          rcases Nat.lt_or_ge j (kindsW.findIdx (· == k)) with h2 | h2
          · have h3 := List.not_of_lt_findIdx h2
            rw [hxe] at h3
            simp [he] at h3
          · exact h2) hf
        have hres : fieldsM k = y := by unfold fieldsM; rw [hidx, hy]; rfl
        have HRES := Lib.hid hres
        have heq : (x == k) = true := by simpa using he
        subst he
        clear hx hres hidx hxe hy
        go_wp2
        go_ret
        exact ⟨by rw [HRES.out]; rfl, HB.out⟩
      · have heq : (x == k) = false := by simpa using he
        have hnx : j + 1 ≤ kindsW.findIdx (· == k) := by
          rcases Nat.lt_or_ge j (kindsW.findIdx (· == k)) with h2 | h2
          · omega
          · have h3 : kindsW.findIdx (· == k) = j := by omega
            have h4 := List.findIdx_getElem (p := (· == k)) (xs := kindsW) (w := by omega)
            simp only [h3, hxe] at h4
            exact absurd (by simpa using h4) he
        have HNX := Lib.hid hnx
        clear hx hnx kd hxe hy
        go_wp2
        go_roundw
        case rel => exact ⟨j + 1, by omega, by go_num, rfl, HNX.out⟩
        case measure => simp [intOf]; omega
    · obtain rfl : j = 13 := by omega
      have hres : fieldsM k = [] := by
        unfold fieldsM
        rw [List.getElem?_eq_none (by have : fieldsW.length = 13 := rfl; omega)]; rfl
      have HRES := Lib.hid hres
      clear hres
      go_wp2
      go_ret
      exact ⟨by rw [HRES.out]; rfl, HB.out⟩
def HsRelT (w : World) (l : List UInt8) (f : UInt8) (i : Value) (wr : World) : Prop := ∃ j : Nat, j ≤ l.length ∧ i = .int .i64 j ∧ wr = w ∧ f ∉ l.take j
theorem fieldsM_len (k : Int) : (fieldsM k).length ≤ 4 := by
  unfold fieldsM
  have : ∀ l ∈ fieldsW, l.length ≤ 4 := by decide
  cases h : fieldsW[kindsW.findIdx (· == k)]? with
  | none => simp
  | some l => exact this l (List.mem_of_getElem? h)
set_option maxHeartbeats 2000000 in
theorem tHas_any (k : Int) (f : UInt8) (w : World) : Calls Try.prog 51 #[.int .i64 k, .int .u8 (f.toNat : Int)] w fun e w' => e = .returned (.bool (hasM k f)) ∧ Below w.heap.size w w' := by
  go_enter Try.func51, Try.ntmps51
  go_wp2_with fail
  refine (tFields_any k _).mono ?_
  rintro e w1 ⟨rfl, hb⟩
  have hl4 := fieldsM_len k
  obtain ⟨l, hl⟩ : ∃ l, l = fieldsM k := ⟨_, rfl⟩
  have HH : Hid (hasM k f = l.contains f) := Lib.hid (by rw [hl]; rfl)
  rw [← hl] at hl4 ⊢
  clear hl
  have hsz : (st l).size = l.length := st_size l
  have HB := Lib.hid hb
  clear hb
  go_wp2
  go_loopw [6] (fun i wr => HsRelT w1 l f i wr) (fun i _ => l.length - (intOf i).toNat)
  case atStart => exact ⟨0, by omega, rfl, rfl, by simp⟩
  case round =>
    obtain ⟨j, hj, rfl, rfl, hf⟩ := hrel
    by_cases hlt : j < l.length
    · have j0 : (0 : Int) ≤ j := by omega
      have j1 : (j : Int) < l.length := by omega
      obtain ⟨x, hx, hxm, htk⟩ : ∃ x : UInt8, (∀ h : j < (st l).size, (st l)[j]'h = x) ∧ x ∈ l ∧ l.take (j + 1) = l.take j ++ [x] :=
        ⟨l[j], fun h => rfl, List.getElem_mem hlt, by rw [List.take_add_one, List.getElem?_eq_getElem hlt]; rfl⟩
      by_cases he : x = f
      · have hc : l.contains f = true := by rw [← he]; simpa using hxm
        have HC := Lib.hid hc
        have t0 : ((x.toNat : Int) == (f.toNat : Int)) = true := by rw [he]; simp
        have t1 : (x.toNat : Int) = (f.toNat : Int) := by rw [he]
        clear hc hxm htk he
        go_wp2
        go_ret
        exact ⟨by rw [HH.out, HC.out]; rfl, HB.out⟩
      · have t0 : ((x.toNat : Int) == (f.toNat : Int)) = false := by
          rw [beq_eq_false_iff_ne]; intro e; apply he; apply UInt8.toNat_inj.1; omega
        have t1 : ¬ (x.toNat : Int) = (f.toNat : Int) := by intro e; apply he; apply UInt8.toNat_inj.1; omega
        have hnf : f ∉ l.take (j + 1) := by rw [htk, List.mem_append]; rintro (h | h); exact hf h; simp at h; exact he h.symm
        have HNF := Lib.hid hnf
        clear hxm htk he hnf
        go_wp2
        go_roundw
        case rel => exact ⟨j + 1, by omega, by go_num, rfl, HNF.out⟩
        case measure => simp [intOf]; omega
    · obtain rfl : j = l.length := by omega
      rw [List.take_length] at hf
      have hc : l.contains f = false := by simpa using hf
      have HC := Lib.hid hc
      clear hc
      go_wp2
      go_ret
      exact ⟨by rw [HH.out, HC.out]; rfl, HB.out⟩
theorem tLow_any (n : Int) (w : World) (h0 : -9223372036854775808 ≤ n) (h1 : n ≤ 9223372036854775807) : Calls Try.prog 27 #[.int .i64 n] w fun e w' => ∃ k : Nat, Hid ((k : Int) = up0 n % 4294967296) ∧ k < 4294967296 ∧ e = .returned (.int .i64 k) ∧ w = w' := by
  go_enter Try.func27, Try.ntmps27
  go_wp2_with fail
  refine (around_any n 4294967296 _ h0 h1 (by omega) (by omega)).mono ?_
  rintro e w1 ⟨k, hk, hk2, rfl, rfl⟩
  go_wp2
  go_ret
  exact ⟨k, hk, hk2, rfl, rfl⟩
theorem tHigh_any (n : Int) (w : World) (h0 : -9223372036854775808 ≤ n) (h1 : n ≤ 9223372036854775807) : Calls Try.prog 30 #[.int .i64 n] w fun e w' => ∃ k : Nat, Hid ((k : Int) = up0 n % 4611686018427387905) ∧ k < 4611686018427387905 ∧ e = .returned (.int .i64 k) ∧ w = w' := by
  go_enter Try.func30, Try.ntmps30
  go_wp2_with fail
  refine (around_any n 4611686018427387905 _ h0 h1 (by omega) (by omega)).mono ?_
  rintro e w1 ⟨k, hk, hk2, rfl, rfl⟩
  go_wp2
  go_ret
  exact ⟨k, hk, hk2, rfl, rfl⟩
theorem tKind_any (n : Int) (w : World) (h0 : -9223372036854775808 ≤ n) (h1 : n ≤ 9223372036854775807) : Calls Try.prog 26 #[.int .i64 n] w fun e w' => e = .returned (.int .i64 (kindB n)) ∧ Below w.heap.size w w' := by
  have hB := Blk.new w 3 [.int .i64 101, .int .i64 105, .int .i64 107, .int .i64 109, .int .i64 111, .int .i64 113, .int .i64 115, .int .i64 117, .int .i64 119, .int .i64 121, .int .i64 123, .int .i64 125, .int .i64 127]
  have hb : Below w.heap.size w (w.alloc (.cells #[.int .i64 101, .int .i64 105, .int .i64 107, .int .i64 109, .int .i64 111, .int .i64 113, .int .i64 115, .int .i64 117, .int .i64 119, .int .i64 121, .int .i64 123, .int .i64 125, .int .i64 127] 3)) := (Below.refl _ _).alloc (Nat.le_refl _) _
  go_enter Try.func26, Try.ntmps26
  go_wp2_with fail
  refine (around_any n 13 _ h0 h1 (by omega) (by omega)).mono ?_
  rintro e w1 ⟨k, hk, hk2, rfl, rfl⟩
  have hkl : kindsW.length = 13 := rfl
  obtain ⟨x, hx⟩ : ∃ x, kindsW[k]? = some x := ⟨_, List.getElem?_eq_getElem (by omega)⟩
  have hc := hB.cell k (.int .i64 x) (by
    have e : ([.int .i64 101, .int .i64 105, .int .i64 107, .int .i64 109, .int .i64 111, .int .i64 113, .int .i64 115, .int .i64 117, .int .i64 119, .int .i64 121, .int .i64 123, .int .i64 125, .int .i64 127] : List Value) = kindsW.map (Value.int .i64) := rfl
    rw [e, List.getElem?_map, hx]; rfl)
  have hres : kindB n = x := by
    unfold kindB
    have : (up0 n % 13).toNat = k := by have := hk.out; omega
    rw [this, hx]; rfl
  have HRES := Lib.hid hres
  generalize w.alloc (.cells #[.int .i64 101, .int .i64 105, .int .i64 107, .int .i64 109, .int .i64 111, .int .i64 113, .int .i64 115, .int .i64 117, .int .i64 119, .int .i64 121, .int .i64 123, .int .i64 125, .int .i64 127] 3) = W at hc hb
  have k0 : (0 : Int) ≤ k := by omega
  have k1 : (k : Int) < 13 := by omega
  have HB := Lib.hid hb
  clear hB hx hres hb
  go_wp2
  go_ret
  exact ⟨by rw [HRES.out]; rfl, HB.out⟩
theorem tShort_any (l : List UInt8) (most : Nat) (w : World) (hl : l.length ≤ 9223372036854775807) (hm : most ≤ 1048576) :
    Calls Try.prog 29 #[.string (st l), .int .i64 most] w fun e w' => e = .returned (.string (st (l.take most))) ∧ w = w' := by
  by_cases h : most < l.length
  · have hx : (st l).extract 0 most = st (l.take most) := by
      apply ByteArray.ext
      simp [st, List.extract_eq_take_drop]
    generalize l.take most = q at hx
    go_enter Try.func29, Try.ntmps29
    go_wp2
    go_ret
    exact ⟨rfl, rfl⟩
  · have e : l.take most = l := List.take_of_length_le (by omega)
    rw [e]
    clear e
    go_enter Try.func29, Try.ntmps29
    go_wp2
    go_ret
    exact ⟨rfl, rfl⟩

/-- A struct stored into the middle of a block that is known whole. -/
theorem run_storeMid8 {P : Program} {w : World} {g o : Nat} {t e : TypeId} {cs xs : List Value} (hs : (P.info? e).map (·.size) = some xs.length) (h : Blk w g t cs) (hl : o + xs.length ≤ cs.length) (h1 : ∀ v ∈ xs, v.oneCell' = true) :
    (Instr.storeAt e (.pointer (some ⟨g, o, none⟩)) (.agg xs.toArray)).run P w = .ok () (w.setRow g (cs.take o ++ xs ++ cs.drop (o + xs.length)).toArray) := by
  obtain ⟨i, hi, hsz⟩ := Option.map_eq_some_iff.1 hs
  have hst := run_storeCells_atM P g o t (0, 0) xs 0 cs.toArray w h (.inl (Nat.le_refl _)) (by simpa using hl) h1
  simp only [Nat.add_zero] at hst
  simp [Instr.storeAt, Instr.sureAddr, storeVar, sizeOf, typeInfo, hi, hsz, Value.cells, hst]
theorem wpList_storeMid8 {P : Program} {w : World} {ops : Array Oper} {rest : List Oper} {o : Oper} {a : Act} {Q : Exit → Act → World → Prop} (hgd : o.guard = none) (x y : Operand) {e : TypeId} (ho : o.op = .store e x y) (hd : o.dst = none)
    {g off : Nat} {t : TypeId} {cs : List Value} (xs cs' : List Value) (hx : a.eval x = .pointer (some ⟨g, off, none⟩)) (hy : a.eval y = .agg xs.toArray) (hs : (P.info? e).map (·.size) = some xs.length) (h : Blk w g t cs) (hl : off + xs.length ≤ cs.length) (h1 : ∀ v ∈ xs, v.oneCell' = true)
    (hcs : cs.take off ++ xs ++ cs.drop (off + xs.length) = cs') (k : wpList P ops Q rest a (w.setRow g cs'.toArray)) : wpList P ops Q (o :: rest) a w := by
  subst hcs
  refine wpList_plain hgd fun K hK => ?_
  unfold Oper.wp execOp
  simp only [ho, hx, hy, run_storeMid8 hs h hl h1, Sem.run_bind, Result.andThen_ok, Sem.run_pure]
  refine hK _ _ ?_
  rw [hd]
  exact k
theorem Keeps.more8 {G G' : Nat → Prop} {w w' w'' : World} (h : Keeps G w w') (h' : Keeps G' w' w'') (hG : ∀ k, k < w.heap.size → G' k → G k) : Keeps G w w'' :=
  ⟨h'.os.trans h.os, h'.tape.trans h.tape, h'.output.trans h.output, Nat.le_trans h.size h'.size, fun k hk hn => (h'.block k (Nat.lt_of_lt_of_le hk h.size) (fun hg => hn (hG k hk hg))).trans (h.block k hk hn)⟩
structure QidV where
  dir : Bool
  ver : Int
  path : Int
/-- A reply. -/
structure TellV where
  kind : Int
  tag : Int
  code : Int
  msize : Int
  iounit : Int
  count : Int
  name : List UInt8
  qid : QidV
  qids : List QidV
  data : List UInt8
  sqid : QidV
  smode : Int
  ssize : Int
  sname : List UInt8
def qidC (q : QidV) : List Value := [.bool q.dir, .int .i64 q.ver, .int .i64 q.path]
def qidZ : QidV := ⟨false, 0, 0⟩
/-- What is laid alone. -/
def ownT (t : TellV) : TellV :=
  { kind := t.kind, tag := t.tag, code := if hasM t.kind 101 then t.code else 0, msize := if hasM t.kind 122 then t.msize else 0, iounit := if hasM t.kind 105 then t.iounit else 0, count := if hasM t.kind 99 then t.count else 0, name := if hasM t.kind 122 then t.name else [], qid := if hasM t.kind 113 then t.qid else qidZ, qids := if hasM t.kind 108 then t.qids else [], data := if hasM t.kind 100 then t.data else [], sqid := if hasM t.kind 115 then t.sqid else qidZ, smode := if hasM t.kind 115 then t.smode else 0, ssize := if hasM t.kind 115 then t.ssize else 0, sname := if hasM t.kind 115 then t.sname else [] }
/-- The reply's cells. -/
def tellC (t : TellV) (Aq : Option Addr) (nq cq : Nat) (Ad : Option Addr) (nd cd : Nat) : List Value :=
  [.int .i64 t.kind, .int .i64 t.tag, .int .i64 t.code, .int .i64 t.msize, .int .i64 t.iounit, .int .i64 t.count, .string (st t.name), .bool t.qid.dir, .int .i64 t.qid.ver, .int .i64 t.qid.path, .slice Aq nq cq, .slice Ad nd cd, .bool t.sqid.dir, .int .i64 t.sqid.ver, .int .i64 t.sqid.path, .int .i64 t.smode, .int .i64 t.ssize, .string (st t.sname)]
theorem tellT_agg (w : World) : (isAgg 29).run Try.prog w = .ok true w := by kernel_rfl
/-- What Own leaves: Qids and Data are those that came, or none. -/
def OwnTPost (t : TellV) (Aq : Option Addr) (nq cq : Nat) (Ad : Option Addr) (nd cd : Nat) (w : World) (e : Ending) (w' : World) : Prop :=
  ∃ x Aq' nq' cq' Ad' nd' cd', Hid (x = ownT t) ∧ e = .returned (.agg (tellC x Aq' nq' cq' Ad' nd' cd').toArray) ∧ Hid ((hasM t.kind 108 = true ∧ Aq' = Aq ∧ nq' = nq ∧ cq' = cq) ∨ (hasM t.kind 108 = false ∧ Aq' = none ∧ nq' = 0 ∧ cq' = 0)) ∧ Hid ((hasM t.kind 100 = true ∧ Ad' = Ad ∧ nd' = nd ∧ cd' = cd) ∨ (hasM t.kind 100 = false ∧ Ad' = none ∧ nd' = 0 ∧ cd' = 0)) ∧ Below w.heap.size w w'

theorem tAround_det (n : Int) (m : Nat) (w : World) (h0 : -9223372036854775808 ≤ n) (h1 : n ≤ 9223372036854775807) (hm : 1 ≤ m) (hm2 : m ≤ 9223372036854775807) :
    Calls Try.prog 20 #[.int .i64 n, .int .i64 m] w fun e w' => e = .returned (.int .i64 (up0 n % m)) ∧ w = w' := by
  refine (around_any n m w h0 h1 hm hm2).mono ?_
  rintro e w' ⟨k, hk, _, rfl, rfl⟩
  exact ⟨by rw [hk.out], rfl⟩
theorem tLow_det (n : Int) (w : World) (h : -9223372036854775808 ≤ n ∧ n ≤ 9223372036854775807) :
    Calls Try.prog 27 #[.int .i64 n] w fun e w' => e = .returned (.int .i64 (up0 n % 4294967296)) ∧ w = w' := by
  refine (tLow_any n w h.1 h.2).mono ?_
  rintro e w' ⟨k, hk, _, rfl, rfl⟩
  exact ⟨by rw [hk.out], rfl⟩
theorem tHigh_det (n : Int) (w : World) (h : -9223372036854775808 ≤ n ∧ n ≤ 9223372036854775807) :
    Calls Try.prog 30 #[.int .i64 n] w fun e w' => e = .returned (.int .i64 (up0 n % 4611686018427387905)) ∧ w = w' := by
  refine (tHigh_any n w h.1 h.2).mono ?_
  rintro e w' ⟨k, hk, _, rfl, rfl⟩
  exact ⟨by rw [hk.out], rfl⟩
/-- A qid made of any. -/
def goodQ (q : QidV) : QidV := ⟨q.dir, up0 q.ver % 4294967296, up0 q.path % 4611686018427387905⟩
def QidIn (q : QidV) : Prop := (-9223372036854775808 ≤ q.ver ∧ q.ver ≤ 9223372036854775807) ∧ (-9223372036854775808 ≤ q.path ∧ q.path ≤ 9223372036854775807)
theorem goodQ_any (q : QidV) (w : World) (h : QidIn q) :
    Calls Try.prog 28 #[.agg #[.bool q.dir, .int .i64 q.ver, .int .i64 q.path]] w fun e w' => e = .returned (.agg #[.bool (goodQ q).dir, .int .i64 (goodQ q).ver, .int .i64 (goodQ q).path]) ∧ Below w.heap.size w w' := by
  obtain ⟨d, v, p⟩ := q
  obtain ⟨hv, hp⟩ := h
  obtain ⟨x, hx⟩ : ∃ x, Hid (x = up0 v % 4294967296) := ⟨_, Lib.hid rfl⟩
  obtain ⟨y, hy⟩ : ∃ x, Hid (x = up0 p % 4611686018427387905) := ⟨_, Lib.hid rfl⟩
  simp only [goodQ]
  rw [← hx.out, ← hy.out]
  have hv' : -9223372036854775808 ≤ v ∧ v ≤ 9223372036854775807 := hv
  have hp' : -9223372036854775808 ≤ p ∧ p ≤ 9223372036854775807 := hp
  have hA0 := Blk.new w 23 [.bool d, .int .i64 v, .int .i64 p]
  have hZ0 := Blk.new (w.alloc (.cells #[.bool d, .int .i64 v, .int .i64 p] 23)) 23 [.bool false, .int .i64 0, .int .i64 0]
  obtain ⟨W, hW⟩ : ∃ x, x = (w.alloc (.cells #[.bool d, .int .i64 v, .int .i64 p] 23)).alloc (.cells #[.bool false, .int .i64 0, .int .i64 0] 23) := ⟨_, rfl⟩
  have hA : Blk W w.heap.size 23 [.bool d, .int .i64 v, .int .i64 p] := by rw [hW]; exact hA0.alloc _
  have hZ : Blk W (w.heap.size + 1) 23 [.bool false, .int .i64 0, .int .i64 0] := by rw [hW]; simpa using hZ0
  have hb : Below w.heap.size w W := by rw [hW]; exact ((Below.refl _ _).alloc (Nat.le_refl _) _).alloc (by simp) _
  clear hA0 hZ0 hv hp
  go_enter Try.func28, Try.ntmps28
  go_upto_region 1 with fail
  rw [← hW]
  clear hW
  have hA' := hA.drew
  have hZ' := hZ.drew
  refine wp_region_tq (Is (w.heap.size + 1)) (.t 0 (.t 1 (.t 2 (.t 3 (.t 5 (.t 6 (.q 4 (.q 7 (.q 8 (.s 9 .nil)))))))))) (by kernel_rfl) (by kernel_rfl) ?_
  have a0 := cell_abv (G := Is (w.heap.size + 1)) (hA'.cell 0 _ rfl) (fun h => by have h' : w.heap.size = w.heap.size + 1 := h; omega)
  have a1 := cell_abv (G := Is (w.heap.size + 1)) (hA'.cell 1 _ rfl) (fun h => by have h' : w.heap.size = w.heap.size + 1 := h; omega)
  have a2 := cell_abv (G := Is (w.heap.size + 1)) (hA'.cell 2 _ rfl) (fun h => by have h' : w.heap.size = w.heap.size + 1 := h; omega)
  repeat (refine tq_take (by simp only [List.getElem?_toArray, List.getElem?_cons_succ, List.getElem?_cons_zero]; exact rfl) ?_; go_big_quiet_step (fail); refine wpQuiet_nil ?_)
  refine tq_call (d := some 7) (by simp only [List.getElem?_toArray, List.getElem?_cons_succ, List.getElem?_cons_zero]; exact rfl) rfl rfl 27 #[.int .i64 v] (.int .i64 x) (fun W => by go_simp) (fun W _ => by have := tLow_det v W hv'; rw [hx.out]; exact this) ?_
  simp only [Act.put, List.setIfInBounds_toArray, List.set_cons_succ, List.set_cons_zero]
  refine tq_call (d := some 10) (by simp only [List.getElem?_toArray, List.getElem?_cons_succ, List.getElem?_cons_zero]; exact rfl) rfl rfl 30 #[.int .i64 p] (.int .i64 y) (fun W => by go_simp) (fun W _ => by have := tHigh_det p W hp'; rw [hy.out]; exact this) ?_
  simp only [Act.put, List.setIfInBounds_toArray, List.set_cons_succ, List.set_cons_zero]
  refine tq_val (d := some 11) (by simp only [List.getElem?_toArray, List.getElem?_cons_succ, List.getElem?_cons_zero]; exact rfl) rfl rfl (.agg #[.bool d, .int .i64 x, .int .i64 y]) (fun W => by go_simp) ?_
  simp only [Act.put, List.setIfInBounds_toArray, List.set_cons_succ, List.set_cons_zero]
  refine tq_solo (by simp only [List.getElem?_toArray, List.getElem?_cons_succ, List.getElem?_cons_zero]; exact rfl) ?_
  go_wp2_with (refine wpList_storeBlk rfl (.tmp 2) (.tmp 11) rfl rfl [.bool d, .int .i64 x, .int .i64 y] rfl rfl (by kernel_rfl) hZ' rfl (by simp [Value.oneCell']) ?_)
  refine Solo.mk (keeps_setRow _ _) ?_
  refine tq_end ?_
  have hF := hZ'.setRow [.bool d, .int .i64 x, .int .i64 y]
  have z0 := hF.cell 0 _ rfl
  have z1 := hF.cell 1 _ rfl
  have z2 := hF.cell 2 _ rfl
  go_wp2
  exact bodyPost_ret (v := .agg #[.bool d, .int .i64 x, .int .i64 y]) (by simp [results, Try.results28, go_sem, z0, z1, z2]) rfl ⟨rfl, below_setRow hb.drew (by omega) _⟩

/-- The k lowest bytes of n, the lowest first. -/
def le : Nat → Nat → List UInt8
  | 0, _ => []
  | k + 1, n => le k n ++ [UInt8.ofNat (n / 256 ^ k)]
theorem le_length (k n : Nat) : (le k n).length = k := by
  induction k with
  | zero => rfl
  | succ k ih => simp [le, ih]
theorem le_succ (k n : Nat) : le (k + 1) n = le k n ++ [UInt8.ofNat (n / 256 ^ k)] := rfl
/-- Lowest first, by division. -/
theorem le_cons (k n : Nat) : le (k + 1) n = UInt8.ofNat n :: le k (n / 256) := by
  induction k with
  | zero => simp [le]
  | succ k ih =>
    rw [le_succ, ih, le_succ]
    simp [Nat.div_div_eq_div_mul, Nat.pow_succ, Nat.mul_comm]
theorem le_mod (k n m : Nat) (h : 256 ^ k ∣ m) : le k (n % m) = le k n := by
  induction k generalizing n m with
  | zero => rfl
  | succ k ih =>
    obtain ⟨q, rfl⟩ := h
    rw [le_cons, le_cons]
    congr 1
    · apply UInt8.toNat_inj.1
      simp only [UInt8.toNat_ofNat']
      rw [Nat.pow_succ, Nat.mul_comm (256 ^ k), Nat.mul_assoc]
      exact Nat.mod_mul_right_mod _ _ _
    · rw [Nat.pow_succ, Nat.mul_comm (256 ^ k), Nat.mul_assoc, Nat.mod_mul_right_div_self]
      exact ih _ _ ⟨q, rfl⟩
/-- The number of bytes, the lowest first. -/
def num : List UInt8 → Nat
  | [] => 0
  | c :: l => c.toNat + 256 * num l
theorem num_lt (l : List UInt8) : num l < 256 ^ l.length := by
  induction l with
  | nil => simp [num]
  | cons c l ih =>
    have := c.toNat_lt
    simp only [num, List.length_cons, Nat.pow_succ]
    omega
theorem num_snoc (l : List UInt8) (c : UInt8) : num (l ++ [c]) = num l + c.toNat * 256 ^ l.length := by
  induction l with
  | nil => simp [num]
  | cons d l ih => simp only [List.cons_append, num, ih, List.length_cons, Nat.pow_succ]; rw [Nat.mul_add, ← Nat.add_assoc]; congr 1; rw [← Nat.mul_assoc, Nat.mul_comm 256, Nat.mul_assoc, Nat.mul_comm 256]
theorem num_pow (l : List UInt8) (c : UInt8) : num (l ++ [c]) = num l ||| (c.toNat <<< (8 * l.length)) := by
  rw [num_snoc, Nat.or_comm, ← Nat.shiftLeft_add_eq_or_of_lt, Nat.shiftLeft_eq, Nat.add_comm]
  · congr 2
    rw [Nat.pow_mul]
  · have := num_lt l
    rw [Nat.pow_mul]
    exact this
theorem num_take_lt (l : List UInt8) (j : Nat) (h : j ≤ l.length) : num (l.take j) < 256 ^ j := by
  have := num_lt (l.take j)
  rwa [List.length_take, Nat.min_eq_left h] at this
/-- One byte more, by '|' and '<<'. -/
theorem take_or (l : List UInt8) (j : Nat) (x : UInt8) (hx : l[j]? = some x) (y : Nat) (hy : y = num (l.take j)) : y ||| (x.toNat * 2 ^ (8 * j)) = num (l.take (j + 1)) := by
  have hl : j < l.length := (List.getElem?_eq_some_iff.1 hx).1
  rw [List.take_add_one, hx, hy]
  simp only [Option.toList_some]
  rw [num_pow, List.length_take, Nat.min_eq_left (by omega), Nat.shiftLeft_eq]
/-- What the next n bytes are, and what is left, at an error that may stand. -/
def nxB (l : List UInt8) (e : Int) (n : Nat) : List UInt8 := if e = 0 ∧ n ≤ l.length then l.take n else []
def nxL (l : List UInt8) (e : Int) (n : Nat) : List UInt8 := if e = 0 ∧ n ≤ l.length then l.drop n else []
def nxE (l : List UInt8) (e : Int) (n : Nat) : Int := if e = 0 then (if n ≤ l.length then 0 else 3) else e
/-- A reader's state: no bytes are left behind an error. -/
def StOk (l : List UInt8) (e : Int) : Prop := e ≠ 0 → l = []
theorem nxB_le (l : List UInt8) (e : Int) (k : Nat) : (nxB l e k).length ≤ l.length := by
  unfold nxB; split
  · rw [List.length_take]; omega
  · simp
theorem nxL_le (l : List UInt8) (e : Int) (k : Nat) : (nxL l e k).length ≤ l.length := by
  unfold nxL; split
  · rw [List.length_drop]; omega
  · simp
/-- A text: its length, and it. -/
def txB (l : List UInt8) (e : Int) : List UInt8 := nxB (nxL l e 2) (nxE l e 2) (num (nxB l e 2))
def txL (l : List UInt8) (e : Int) : List UInt8 := nxL (nxL l e 2) (nxE l e 2) (num (nxB l e 2))
def txE (l : List UInt8) (e : Int) : Int := nxE (nxL l e 2) (nxE l e 2) (num (nxB l e 2))
/-- Data: their length, and they; more than most are none. -/
def dtBad (l : List UInt8) (e most : Int) : Prop := nxE l e 4 = 0 ∧ most < num (nxB l e 4)
instance (l : List UInt8) (e most : Int) : Decidable (dtBad l e most) := by unfold dtBad; infer_instance
def dtB (l : List UInt8) (e most : Int) : List UInt8 := if dtBad l e most then [] else nxB (nxL l e 4) (nxE l e 4) (num (nxB l e 4))
def dtL (l : List UInt8) (e most : Int) : List UInt8 := if dtBad l e most then [] else nxL (nxL l e 4) (nxE l e 4) (num (nxB l e 4))
def dtE (l : List UInt8) (e most : Int) : Int := if dtBad l e most then 4 else nxE (nxL l e 4) (nxE l e 4) (num (nxB l e 4))
/-- The error, or that bytes are left. -/
def endE (l : List UInt8) (e : Int) : Int := if e = 0 ∧ 0 < l.length then 2 else e
/-- A message. -/
def packL (kind tag : Nat) (body : List UInt8) : List UInt8 := le 4 (7 + body.length) ++ (le 1 kind ++ (le 2 tag ++ body))

/-- append of bytes onto bytes that are the call's own, or that have no room. -/
theorem wpList_append_eitherB {P : Program} {w : World} {ops : Array Oper} {rest : List Oper} {o : Oper} {a : Act} {Q : Exit → Act → World → Prop} {t : TypeId} (el : Elem P t 5 (.int .u8 0) 1 1)
    (hgd : o.guard = none) (s x : Operand) (u : TypeId) (ho : o.op = .call { callee := .builtin .append, args := #[s, x], argTypes := #[t, u] })
    (base : Nat) (A0 : Option Addr) (n0 c0 B : Nat) (l1 : List UInt8) (hs : a.eval s = .slice A0 n0 c0) (hown : (c0 = n0 ∧ RdB w B A0 n0 l1) ∨ OwB w base A0 n0 c0 l1)
    (xv : Value) (hx : a.eval x = xv) (m : Nat) (l2 : List UInt8) (hsrc : Src P w u 1 xv m (bv l2)) (hm : 0 < m)
    (h63 : n0 + m ≤ 1073741824) (hbase : base ≤ w.heap.size)
    (h : ∀ (A : Option Addr) (n c : Nat) (l' : List UInt8) (w' : World), Hid (l' = l1 ++ l2) → Hid (n = n0 + m) → OwB w' base A n c l' → Below base w w' →
      wpList P ops Q rest (a.put o.dst (.slice A n c)) w') : wpList P ops Q (o :: rest) a w := by
  rcases hown with ⟨hc, hr⟩ | hown
  · exact wpList_append_fullB el hgd s x u ho base A0 n0 c0 B l1 hs hr xv hx m l2 hsrc (by omega) h63 hbase (fun A n c l' w' h1 h2 h3 h4 => h A n c l' w' h1 h2 h3 (h4.mono hbase))
  · exact wpList_appendB el hgd s x u ho base A0 n0 c0 l1 hs hown xv hx m l2 hsrc h63 hbase (fun A n c l' w' h1 h2 h3 h4 _ => h A n c l' w' h1 h2 h3 h4)
def LayRel (B : Nat) (w : World) (l : List UInt8) (x size : Nat) (v i : Value) (wr : World) : Prop :=
  ∃ (j n' c' : Nat) (A' : Option Addr) (l' : List UInt8), j ≤ size ∧ i = .int .i64 j ∧ v = .slice A' n' c' ∧ l' = l ++ le j x ∧ ((c' = n' ∧ RdB wr B A' n' l' ∧ j = 0) ∨ OwB wr B A' n' c' l') ∧ Below B w wr
def LayPost (w : World) (l : List UInt8) (e : Ending) (w' : World) : Prop := ∃ A' n' c' l', Hid (l' = l) ∧ e = .returned (.slice A' n' c') ∧ OwB w' w.heap.size A' n' c' l' ∧ Below w.heap.size w w'
/-- One byte in a block of its own, its number reckoned. -/
theorem Src.oneByteV {P : Program} (w : World) (u e : TypeId) (hu : P.underlying u = some (.slice e)) (v : Int) (x : UInt8) (hv : v = (x.toNat : Int)) (t : TypeId) :
    Src P (w.alloc (.cells #[.int .u8 v] t)) u 1 (.slice (some ⟨w.heap.size, 0, none⟩) 1 1) 1 (bv [x]) := by
  subst hv
  exact Src.oneByte w u e hu x t
theorem byte_of (x j : Nat) : ((x : Int) / 2 ^ (8 * j) % 256) = ((UInt8.ofNat (x / 256 ^ j)).toNat : Int) := by
  have e : (256 : Nat) ^ j = 2 ^ (8 * j) := by rw [Nat.pow_mul]
  rw [e]
  simp
theorem lay_len {B n j n' c' x : Nat} {wr : World} {l l' : List UInt8} {A' : Option Addr} (h : l.length = n) (hl : l' = l ++ le j x) (ho : (c' = n' ∧ RdB wr B A' n' l' ∧ j = 0) ∨ OwB wr B A' n' c' l') (hj : j ≤ 8) (hn : n ≤ 1048576) : n' ≤ 1048584 := by
  have : l'.length = n' := by rcases ho with ⟨_, h, _⟩ | h <;> exact h.len
  rw [← this, hl, List.length_append, le_length]
  omega
theorem lay_alloc {B j n' c' : Nat} {w wr : World} {l' : List UInt8} {A' : Option Addr} (ho : (c' = n' ∧ RdB wr B A' n' l' ∧ j = 0) ∨ OwB wr B A' n' c' l') (hb : Below B w wr) (o : Obj) (hB : B ≤ w.heap.size := by exact Nat.le_refl _) :
    (c' = n' ∧ RdB (wr.alloc o) B A' n' l') ∨ OwB (wr.alloc o) B A' n' c' l' := by
  rcases ho with ⟨h1, h2, _⟩ | h
  · exact .inl ⟨h1, h2.alloc (Nat.le_trans hB hb.size) o⟩
  · exact .inr (h.alloc o)
theorem lay_own {B j n' c' : Nat} {wr : World} {l' : List UInt8} {A' : Option Addr} (ho : (c' = n' ∧ RdB wr B A' n' l' ∧ j = 0) ∨ OwB wr B A' n' c' l') (hj : 1 ≤ j) : OwB wr B A' n' c' l' := by
  rcases ho with ⟨_, _, h⟩ | h
  · omega
  · exact h
theorem lay8_any (A : Option Addr) (n c : Nat) (l : List UInt8) (x size : Nat) (w : World) (h : RdB w w.heap.size A n l) (hn : n ≤ c) (hn2 : n ≤ 1048576) (hx : x ≤ 255) (hs : 1 ≤ size) (hs2 : size ≤ 8) :
    Calls Try.prog 84 #[.slice A n c, .int .u8 x, .int .i64 size] w (LayPost w (l ++ le size x)) := by
  go_enter Try.func84, Try.ntmps84
  go_wp2
  go_loopw [0, 15] (fun v i wr => LayRel w.heap.size w l x size v i wr) (fun _ i _ => size - (intOf i).toNat)
  case atStart => exact ⟨0, n, n, A, l, by omega, rfl, rfl, by simp [le], .inl ⟨rfl, h, rfl⟩, Below.refl _ _⟩
  case round =>
    obtain ⟨j, n', c', A', l', hj, rfl, rfl, hl', hor, hbw⟩ := hrel
    have hln : n' ≤ 1048584 := lay_len h.len hl' hor (by omega) hn2
    have HL := Lib.hid hl'
    have HO := Lib.hid hor
    have hsz := hbw.size
    have hby := Lib.hid (byte_of x j)
    clear hl' hor
    by_cases hlt : j < size
    · go_wp2_with (at_builtin; go_must (refine wpList_append_eitherB bytesElem rfl (.tmp 18) (.tmp 25) 25 rfl w.heap.size A' n' c' w.heap.size l' rfl (lay_alloc HO.out hbw _) _ rfl 1 [UInt8.ofNat (x / 256 ^ j)] (Src.oneByteV _ _ _ Try.underlying25 _ _ hby.out _) (by omega) (by omega) (by simp; omega) ?_); intro A3 n3 c3 l3 w3 hl3 hn3 hown3 hb3)
      go_roundw
      case rel => exact ⟨j + 1, n3, c3, A3, l3, by omega, by go_num, rfl, by rw [hl3.out, HL.out, le_succ, List.append_assoc], .inr hown3, (hbw.alloc hsz _).trans hb3⟩
      case measure => simp [intOf]; omega
    · obtain rfl : j = size := by omega
      have ho := lay_own HO.out hs
      go_wp2
      go_ret
      exact ⟨A', n', c', l', HL, rfl, ho, hbw⟩
theorem lay16_any (A : Option Addr) (n c : Nat) (l : List UInt8) (x size : Nat) (w : World) (h : RdB w w.heap.size A n l) (hn : n ≤ c) (hn2 : n ≤ 1048576) (hx : x ≤ 65535) (hs : 1 ≤ size) (hs2 : size ≤ 8) :
    Calls Try.prog 83 #[.slice A n c, .int .u16 x, .int .i64 size] w (LayPost w (l ++ le size x)) := by
  go_enter Try.func83, Try.ntmps83
  go_wp2
  go_loopw [0, 15] (fun v i wr => LayRel w.heap.size w l x size v i wr) (fun _ i _ => size - (intOf i).toNat)
  case atStart => exact ⟨0, n, n, A, l, by omega, rfl, rfl, by simp [le], .inl ⟨rfl, h, rfl⟩, Below.refl _ _⟩
  case round =>
    obtain ⟨j, n', c', A', l', hj, rfl, rfl, hl', hor, hbw⟩ := hrel
    have hln : n' ≤ 1048584 := lay_len h.len hl' hor (by omega) hn2
    have HL := Lib.hid hl'
    have HO := Lib.hid hor
    have hsz := hbw.size
    have hby := Lib.hid (byte_of x j)
    clear hl' hor
    by_cases hlt : j < size
    · go_wp2_with (at_builtin; go_must (refine wpList_append_eitherB bytesElem rfl (.tmp 18) (.tmp 25) 25 rfl w.heap.size A' n' c' w.heap.size l' rfl (lay_alloc HO.out hbw _) _ rfl 1 [UInt8.ofNat (x / 256 ^ j)] (Src.oneByteV _ _ _ Try.underlying25 _ _ hby.out _) (by omega) (by omega) (by simp; omega) ?_); intro A3 n3 c3 l3 w3 hl3 hn3 hown3 hb3)
      go_roundw
      case rel => exact ⟨j + 1, n3, c3, A3, l3, by omega, by go_num, rfl, by rw [hl3.out, HL.out, le_succ, List.append_assoc], .inr hown3, (hbw.alloc hsz _).trans hb3⟩
      case measure => simp [intOf]; omega
    · obtain rfl : j = size := by omega
      have ho := lay_own HO.out hs
      go_wp2
      go_ret
      exact ⟨A', n', c', l', HL, rfl, ho, hbw⟩
theorem lay32_any (A : Option Addr) (n c : Nat) (l : List UInt8) (x size : Nat) (w : World) (h : RdB w w.heap.size A n l) (hn : n ≤ c) (hn2 : n ≤ 1048576) (hx : x ≤ 4294967295) (hs : 1 ≤ size) (hs2 : size ≤ 8) :
    Calls Try.prog 82 #[.slice A n c, .int .u32 x, .int .i64 size] w (LayPost w (l ++ le size x)) := by
  go_enter Try.func82, Try.ntmps82
  go_wp2
  go_loopw [0, 15] (fun v i wr => LayRel w.heap.size w l x size v i wr) (fun _ i _ => size - (intOf i).toNat)
  case atStart => exact ⟨0, n, n, A, l, by omega, rfl, rfl, by simp [le], .inl ⟨rfl, h, rfl⟩, Below.refl _ _⟩
  case round =>
    obtain ⟨j, n', c', A', l', hj, rfl, rfl, hl', hor, hbw⟩ := hrel
    have hln : n' ≤ 1048584 := lay_len h.len hl' hor (by omega) hn2
    have HL := Lib.hid hl'
    have HO := Lib.hid hor
    have hsz := hbw.size
    have hby := Lib.hid (byte_of x j)
    clear hl' hor
    by_cases hlt : j < size
    · go_wp2_with (at_builtin; go_must (refine wpList_append_eitherB bytesElem rfl (.tmp 18) (.tmp 25) 25 rfl w.heap.size A' n' c' w.heap.size l' rfl (lay_alloc HO.out hbw _) _ rfl 1 [UInt8.ofNat (x / 256 ^ j)] (Src.oneByteV _ _ _ Try.underlying25 _ _ hby.out _) (by omega) (by omega) (by simp; omega) ?_); intro A3 n3 c3 l3 w3 hl3 hn3 hown3 hb3)
      go_roundw
      case rel => exact ⟨j + 1, n3, c3, A3, l3, by omega, by go_num, rfl, by rw [hl3.out, HL.out, le_succ, List.append_assoc], .inr hown3, (hbw.alloc hsz _).trans hb3⟩
      case measure => simp [intOf]; omega
    · obtain rfl : j = size := by omega
      have ho := lay_own HO.out hs
      go_wp2
      go_ret
      exact ⟨A', n', c', l', HL, rfl, ho, hbw⟩
theorem lay64_any (A : Option Addr) (n c : Nat) (l : List UInt8) (x size : Nat) (w : World) (h : RdB w w.heap.size A n l) (hn : n ≤ c) (hn2 : n ≤ 1048576) (hx : x ≤ 18446744073709551615) (hs : 1 ≤ size) (hs2 : size ≤ 8) :
    Calls Try.prog 91 #[.slice A n c, .int .u64 x, .int .i64 size] w (LayPost w (l ++ le size x)) := by
  go_enter Try.func91, Try.ntmps91
  go_wp2
  go_loopw [0, 15] (fun v i wr => LayRel w.heap.size w l x size v i wr) (fun _ i _ => size - (intOf i).toNat)
  case atStart => exact ⟨0, n, n, A, l, by omega, rfl, rfl, by simp [le], .inl ⟨rfl, h, rfl⟩, Below.refl _ _⟩
  case round =>
    obtain ⟨j, n', c', A', l', hj, rfl, rfl, hl', hor, hbw⟩ := hrel
    have hln : n' ≤ 1048584 := lay_len h.len hl' hor (by omega) hn2
    have HL := Lib.hid hl'
    have HO := Lib.hid hor
    have hsz := hbw.size
    have hby := Lib.hid (byte_of x j)
    clear hl' hor
    by_cases hlt : j < size
    · go_wp2_with (at_builtin; go_must (refine wpList_append_eitherB bytesElem rfl (.tmp 18) (.tmp 24) 25 rfl w.heap.size A' n' c' w.heap.size l' rfl (lay_alloc HO.out hbw _) _ rfl 1 [UInt8.ofNat (x / 256 ^ j)] (Src.oneByteV _ _ _ Try.underlying25 _ _ hby.out _) (by omega) (by omega) (by simp; omega) ?_); intro A3 n3 c3 l3 w3 hl3 hn3 hown3 hb3)
      go_roundw
      case rel => exact ⟨j + 1, n3, c3, A3, l3, by omega, by go_num, rfl, by rw [hl3.out, HL.out, le_succ, List.append_assoc], .inr hown3, (hbw.alloc hsz _).trans hb3⟩
      case measure => simp [intOf]; omega
    · obtain rfl : j = size := by omega
      have ho := lay_own HO.out hs
      go_wp2
      go_ret
      exact ⟨A', n', c', l', HL, rfl, ho, hbw⟩

theorem u8_any (A : Option Addr) (n c : Nat) (l : List UInt8) (x : Nat) (w : World) (h : RdB w w.heap.size A n l) (hn : n ≤ c) (hn2 : n ≤ 1048576) (hx : x ≤ 255) :
    Calls Try.prog 56 #[.slice A n c, .int .u8 x] w (LayPost w (l ++ le 1 x)) := by
  go_enter Try.func56, Try.ntmps56
  go_wp2_with fail
  refine (lay8_any A n c l x 1 _ h hn hn2 hx (by omega) (by omega)).mono ?_
  rintro e w1 ⟨A1, n1, c1, l1, hl1, rfl, hown1, hb1⟩
  go_wp2
  go_ret
  exact ⟨A1, n1, c1, l1, hl1, rfl, hown1, hb1⟩
theorem u16_any (A : Option Addr) (n c : Nat) (l : List UInt8) (x : Nat) (w : World) (h : RdB w w.heap.size A n l) (hn : n ≤ c) (hn2 : n ≤ 1048576) (hx : x ≤ 65535) :
    Calls Try.prog 55 #[.slice A n c, .int .u16 x] w (LayPost w (l ++ le 2 x)) := by
  go_enter Try.func55, Try.ntmps55
  go_wp2_with fail
  refine (lay16_any A n c l x 2 _ h hn hn2 hx (by omega) (by omega)).mono ?_
  rintro e w1 ⟨A1, n1, c1, l1, hl1, rfl, hown1, hb1⟩
  go_wp2
  go_ret
  exact ⟨A1, n1, c1, l1, hl1, rfl, hown1, hb1⟩
theorem u32_any (A : Option Addr) (n c : Nat) (l : List UInt8) (x : Nat) (w : World) (h : RdB w w.heap.size A n l) (hn : n ≤ c) (hn2 : n ≤ 1048576) (hx : x ≤ 4294967295) :
    Calls Try.prog 54 #[.slice A n c, .int .u32 x] w (LayPost w (l ++ le 4 x)) := by
  go_enter Try.func54, Try.ntmps54
  go_wp2_with fail
  refine (lay32_any A n c l x 4 _ h hn hn2 hx (by omega) (by omega)).mono ?_
  rintro e w1 ⟨A1, n1, c1, l1, hl1, rfl, hown1, hb1⟩
  go_wp2
  go_ret
  exact ⟨A1, n1, c1, l1, hl1, rfl, hown1, hb1⟩
theorem u64_any (A : Option Addr) (n c : Nat) (l : List UInt8) (x : Nat) (w : World) (h : RdB w w.heap.size A n l) (hn : n ≤ c) (hn2 : n ≤ 1048576) (hx : x ≤ 18446744073709551615) :
    Calls Try.prog 89 #[.slice A n c, .int .u64 x] w (LayPost w (l ++ le 8 x)) := by
  go_enter Try.func89, Try.ntmps89
  go_wp2_with fail
  refine (lay64_any A n c l x 8 _ h hn hn2 hx (by omega) (by omega)).mono ?_
  rintro e w1 ⟨A1, n1, c1, l1, hl1, rfl, hown1, hb1⟩
  go_wp2
  go_ret
  exact ⟨A1, n1, c1, l1, hl1, rfl, hown1, hb1⟩
theorem text_any (A : Option Addr) (n c : Nat) (l s : List UInt8) (w : World) (h : RdB w w.heap.size A n l) (hn : n ≤ c) (hn2 : n ≤ 1048576) (hs : s.length ≤ 65535) :
    Calls Try.prog 88 #[.slice A n c, .string (st s)] w (LayPost w (l ++ le 2 s.length ++ s)) := by
  go_enter Try.func88, Try.ntmps88
  go_wp2_with fail
  refine (u16_any A n c l s.length _ h hn hn2 hs).mono ?_
  rintro e w1 ⟨A1, n1, c1, l1, hl1, rfl, hown1, hb1⟩
  have hl := hown1.len
  have hn1 : n1 ≤ 1048586 := by rw [← hl, hl1.out, List.length_append, le_length, h.len]; omega
  have HS := Lib.hid hb1.size
  clear hl
  go_wp2_with (at_builtin; go_must (refine wpList_appendB bytesElem rfl (.tmp 9) (.tmp 10) 9 rfl w.heap.size A1 n1 c1 l1 rfl hown1 _ rfl s.length s (Src.str _ _ Try.underlying9 s) (by omega) HS.out ?_); intro A2 n2 c2 l2 w2 hl2 hn2 hown2 hb2 hg2)
  go_ret
  exact ⟨A2, n2, c2, l2, by rw [hl2.out, hl1.out]; rfl, rfl, hown2, hb1.trans hb2⟩
theorem data_any (A : Option Addr) (n c : Nat) (l : List UInt8) (A' : Option Addr) (n' c' : Nat) (s : List UInt8) (w : World) (h : RdB w w.heap.size A n l) (hn : n ≤ c) (hn2 : n ≤ 1048576) (h' : RdB w w.heap.size A' n' s) (hs : n' ≤ 1048576) :
    Calls Try.prog 80 #[.slice A n c, .slice A' n' c'] w (LayPost w (l ++ le 4 n' ++ s)) := by
  go_enter Try.func80, Try.ntmps80
  go_wp2_with fail
  refine (u32_any A n c l n' _ h hn hn2 (by omega)).mono ?_
  rintro e w1 ⟨A1, n1, c1, l1, hl1, rfl, hown1, hb1⟩
  have hl := hown1.len
  have hn1 : n1 ≤ 1048586 := by rw [← hl, hl1.out, List.length_append, le_length, h.len]; omega
  have HS := Lib.hid hb1.size
  have H' := Lib.hid ((h'.below hb1).src (P := Try.prog) (c := c') 25 5 Try.underlying25)
  clear hl
  go_wp2_with (at_builtin; go_must (refine wpList_appendB bytesElem rfl (.tmp 9) (.tmp 10) 25 rfl w.heap.size A1 n1 c1 l1 rfl hown1 _ rfl n' s H'.out (by omega) HS.out ?_); intro A2 n2 c2 l2 w2 hl2 hn2 hown2 hb2 hg2)
  go_ret
  exact ⟨A2, n2, c2, l2, by rw [hl2.out, hl1.out]; rfl, rfl, hown2, hb1.trans hb2⟩
theorem pack_any (kind tag : Nat) (A : Option Addr) (n c : Nat) (l : List UInt8) (w : World) (h : RdB w w.heap.size A n l) (hn : n ≤ 1048576) (hk : kind ≤ 255) (ht : tag ≤ 65535) :
    Calls Try.prog 39 #[.int .u8 kind, .int .u16 tag, .slice A n c] w (LayPost w (packL kind tag l)) := by
  go_enter Try.func39, Try.ntmps39
  go_wp2_with fail
  refine (u32_any none 0 0 [] (7 + n) _ RdB.nil (by omega) (by omega) (by omega)).mono ?_
  rintro e w1 ⟨A1, n1, c1, l1, hl1, rfl, hown1, hb1⟩
  have hn1 : n1 = 4 := by rw [← hown1.len, hl1.out]; simp [le_length]
  subst hn1
  have hc1 := hown1.cap
  unfold maxLen at hc1
  go_wp2_with fail
  refine (u8_any A1 4 c1 l1 kind _ hown1.rd (by omega) (by omega) hk).mono ?_
  rintro e w2 ⟨A2, n2, c2, l2, hl2, rfl, hown2, hb2⟩
  have hn2 : n2 = 5 := by rw [← hown2.len, hl2.out, List.length_append, le_length, hown1.len]
  subst hn2
  have hc2 := hown2.cap
  unfold maxLen at hc2
  go_wp2_with fail
  refine (u16_any A2 5 c2 l2 tag _ hown2.rd (by omega) (by omega) ht).mono ?_
  rintro e w3 ⟨A3, n3, c3, l3, hl3, rfl, hown3, hb3⟩
  have hn3 : n3 = 7 := by rw [← hown3.len, hl3.out, List.length_append, le_length, hown2.len]
  subst hn3
  have hb13 := (hb1.trans (hb2.mono hb1.size)).trans (hb3.mono (Nat.le_trans hb1.size hb2.size))
  have hown3' := hown3.lower (Nat.le_trans hb1.size hb2.size)
  have HS := Lib.hid hb13.size
  have H' := Lib.hid ((h.below hb13).src (P := Try.prog) (c := c) 25 5 Try.underlying25)
  go_wp2_with (at_builtin; go_must (refine wpList_appendB bytesElem rfl (.tmp 17) (.tmp 18) 25 rfl w.heap.size A3 7 c3 l3 rfl hown3' _ rfl n l H'.out (by omega) HS.out ?_); intro A4 n4 c4 l4 w4 hl4 hn4 hown4 hb4 hg4)
  go_ret
  refine ⟨A4, n4, c4, l4, ?_, rfl, hown4, hb13.trans hb4⟩
  show _ = _
  rw [hl4.out, hl3.out, hl2.out, hl1.out, packL, h.len]
  simp [List.append_assoc]

def NumRel (B : Nat) (w : World) (x size : Nat) (y v i : Value) (wr : World) : Prop :=
  ∃ (j n' c' z : Nat) (A' : Option Addr) (l' : List UInt8), j ≤ size ∧ i = .int .i64 j ∧ y = .int .u64 z ∧ z = x / 256 ^ j ∧ v = .slice A' n' c' ∧ l' = le j x ∧ OwB wr B A' n' c' l' ∧ Below B w wr
theorem byte_mod (z : Nat) : ((z : Int) % 256) = ((UInt8.ofNat z).toNat : Int) := by simp
theorem number_any (x size : Nat) (w : World) (hx : x ≤ 18446744073709551615) (hs2 : size ≤ 8) :
    Calls Try.prog 61 #[.int .u64 x, .int .i64 size] w (LayPost w (le size x)) := by
  go_enter Try.func61, Try.ntmps61
  go_wp2
  go_loopw [0, 5, 6] (fun y v i wr => NumRel w.heap.size w x size y v i wr) (fun _ _ i _ => size - (intOf i).toNat)
  case atStart => exact ⟨0, 0, 0, x, none, [], by omega, rfl, rfl, by simp, rfl, rfl, OwB.nil _ _, Below.refl _ _⟩
  case round =>
    obtain ⟨j, n', c', z, A', l', hj, rfl, rfl, hz, rfl, hl', hown', hbw⟩ := hrel
    have hln : n' ≤ 8 := by rw [← hown'.len, hl', le_length]; omega
    have hzx : z ≤ 18446744073709551615 := by rw [hz]; exact Nat.le_trans (Nat.div_le_self _ _) hx
    have HL := Lib.hid hl'
    have HZ := Lib.hid hz
    have hsz := hbw.size
    have hby := Lib.hid (byte_mod z)
    clear hl' hz
    by_cases hlt : j < size
    · go_wp2_with (at_builtin; go_must (refine wpList_appendB bytesElem rfl (.tmp 12) (.tmp 16) 25 rfl w.heap.size A' n' c' l' rfl (hown'.alloc _) _ rfl 1 [UInt8.ofNat z] (Src.oneByteV _ _ _ Try.underlying25 _ _ hby.out _) (by omega) (by simp; omega) ?_); intro A3 n3 c3 l3 w3 hl3 hn3 hown3 hb3 hg3)
      go_roundw
      case rel => exact ⟨j + 1, n3, c3, z / 256, A3, l3, by omega, by go_num, by go_num, by rw [HZ.out, Nat.div_div_eq_div_mul, Nat.pow_succ], rfl, by rw [hl3.out, HL.out, le_succ, HZ.out], hown3, (hbw.alloc hsz _).trans hb3⟩
      case measure => simp [intOf]; omega
    · obtain rfl : j = size := by omega
      go_wp2
      go_ret
      exact ⟨A', n', c', l', HL, rfl, hown', hbw⟩
theorem refText_any (s : List UInt8) (w : World) (hs : s.length ≤ 65535) :
    Calls Try.prog 58 #[.string (st s)] w (LayPost w (le 2 s.length ++ s)) := by
  go_enter Try.func58, Try.ntmps58
  go_wp2_with fail
  refine (number_any s.length 2 _ (by omega) (by omega)).mono ?_
  rintro e w1 ⟨A1, n1, c1, l1, hl1, rfl, hown1, hb1⟩
  have hn1 : n1 = 2 := by rw [← hown1.len, hl1.out, le_length]
  subst hn1
  have HS := Lib.hid hb1.size
  go_wp2_with (first
    | (at_builtin; go_must (refine wpList_appendB bytesElem rfl (.tmp 6) (.tmp 8) 25 rfl w.heap.size A1 2 c1 l1 rfl (hown1.up hbs) _ rfl nn s (hows.rd.src (P := Try.prog) (c := cc) 25 5 Try.underlying25) (by have := hnn.out; omega) (Nat.le_trans HS.out hbs.size) ?_); intro A2 n2 c2 l2 w2 hl2 hn2 hown2 hb2 hg2)
    | (with_reducible refine wpList_stringB bytesElem Try.underlying5 rfl (.tmp 7) 9 Try.underlying9 rfl s rfl (by omega) w.heap.size HS.out ?_; intro gg nn cc ws hnn hows hbs))
  go_ret
  exact ⟨A2, n2, c2, l2, by rw [hl2.out, hl1.out]; rfl, rfl, hown2, (hb1.trans (hbs.mono hb1.size)).trans hb2⟩
theorem refData_any (A : Option Addr) (n c : Nat) (s : List UInt8) (w : World) (h : RdB w w.heap.size A n s) (hs : n ≤ 1048576) :
    Calls Try.prog 60 #[.slice A n c] w (LayPost w (le 4 n ++ s)) := by
  go_enter Try.func60, Try.ntmps60
  go_wp2_with fail
  refine (number_any n 4 _ (by omega) (by omega)).mono ?_
  rintro e w1 ⟨A1, n1, c1, l1, hl1, rfl, hown1, hb1⟩
  have hn1 : n1 = 4 := by rw [← hown1.len, hl1.out, le_length]
  subst hn1
  have HS := Lib.hid hb1.size
  have H' := Lib.hid ((h.below hb1).src (P := Try.prog) (c := c) 25 5 Try.underlying25)
  go_wp2_with (at_builtin; go_must (refine wpList_appendB bytesElem rfl (.tmp 6) (.tmp 7) 25 rfl w.heap.size A1 4 c1 l1 rfl hown1 _ rfl n s H'.out (by omega) HS.out ?_); intro A2 n2 c2 l2 w2 hl2 hn2 hown2 hb2 hg2)
  go_ret
  exact ⟨A2, n2, c2, l2, by rw [hl2.out, hl1.out]; rfl, rfl, hown2, hb1.trans hb2⟩
theorem refPack_any (kind tag : Nat) (A : Option Addr) (n c : Nat) (l : List UInt8) (w : World) (h : RdB w w.heap.size A n l) (hn : n ≤ 1048576) (hk : kind ≤ 255) (ht : tag ≤ 65535) :
    Calls Try.prog 41 #[.int .i64 kind, .int .i64 tag, .slice A n c] w (LayPost w (packL kind tag l)) := by
  go_enter Try.func41, Try.ntmps41
  go_wp2_with fail
  refine (number_any (7 + n) 4 _ (by omega) (by omega)).mono ?_
  rintro e w1 ⟨A1, n1, c1, l1, hl1, rfl, hown1, hb1⟩
  have hn1 : n1 = 4 := by rw [← hown1.len, hl1.out, le_length]
  subst hn1
  have HS := Lib.hid hb1.size
  have hk2 : (kind : Int) = ((UInt8.ofNat kind).toNat : Int) := by simp; omega
  have hby := Lib.hid hk2
  clear hk2
  go_wp2_with (at_builtin; go_must (refine wpList_appendB bytesElem rfl (.tmp 13) (.tmp 16) 25 rfl w.heap.size A1 4 c1 l1 rfl (hown1.alloc _) _ rfl 1 [UInt8.ofNat kind] (Src.oneByteV _ _ _ Try.underlying25 _ _ hby.out _) (by omega) (by have := HS.out; simp; omega) ?_); intro A2 n2 c2 l2 w2 hl2 hn2 hown2 hb2 hg2)
  have hn2 : n2 = 5 := by rw [← hown2.len, hl2.out, List.length_append, hown1.len]; rfl
  have hb12 : Below w.heap.size w w2 := (hb1.alloc HS.out _).trans hb2
  have HS2 := Lib.hid hb12.size
  subst hn2
  refine (number_any tag 2 _ (by omega) (by omega)).mono ?_
  rintro e w3 ⟨A3, n3, c3, l3, hl3, rfl, hown3, hb3⟩
  have hn3 : n3 = 2 := by rw [← hown3.len, hl3.out, le_length]
  subst hn3
  have HS3 := Lib.hid (Nat.le_trans hb12.size hb3.size)
  have H3 := Lib.hid (hown3.rd.src (P := Try.prog) (c := c3) 25 5 Try.underlying25)
  have hown2' := hown2.up hb3
  go_wp2_with (at_builtin; first
    | (refine wpList_appendB bytesElem rfl (.tmp 18) (.tmp 21) 25 rfl w.heap.size A2 5 c2 l2 rfl hown2' _ rfl 2 l3 H3.out (by omega) HS3.out ?_; intro A4 n4 c4 l4 w4 hl4 hn4 hown4 hb4 hg4)
    | (have hn7 : n4 = 7 := hn4.out; subst hn7; have hb14 := Lib.hid ((hb12.trans (hb3.mono hb12.size)).trans hb4); have HS4 := Lib.hid hb14.out.size; refine wpList_appendB bytesElem rfl (.tmp 23) (.tmp 24) 25 rfl w.heap.size A4 7 c4 l4 rfl hown4 _ rfl n l ((h.below hb14.out).src (P := Try.prog) (c := c) 25 5 Try.underlying25) (by omega) HS4.out ?_; intro A5 n5 c5 l5 w5 hl5 hn5 hown5 hb5 hg5))
  go_ret
  refine ⟨A5, n5, c5, l5, ?_, rfl, hown5, hb14.out.trans hb5⟩
  show _ = _
  rw [hl5.out, hl4.out, hl3.out, hl2.out, hl1.out, packL, h.len]
  simp [le]
/-- The reader in block g stands ahead of the bytes l, its error is e. -/
def Rdr (w : World) (g : Nat) (l : List UInt8) (e : Int) : Prop :=
  ∃ A n c, Blk w g 100 [.slice A n c, .int .i64 e] ∧ RdB w g A n l ∧ n ≤ c ∧ c ≤ maxLen ∧ StOk l e
section
variable {w w' : World} {g : Nat} {l : List UInt8} {e : Int}
theorem Rdr.lt (h : Rdr w g l e) : g < w.heap.size := by obtain ⟨_, _, _, h, _⟩ := h; exact h.lt
theorem Rdr.below {B : Nat} (h : Rdr w g l e) (k : Below B w w') (hg : g < B) : Rdr w' g l e := by
  obtain ⟨A, n, c, h1, h2, h3⟩ := h
  exact ⟨A, n, c, h1.below k hg, h2.below (k.mono (Nat.le_of_lt hg)), h3⟩
theorem Rdr.up (h : Rdr w g l e) (k : Below w.heap.size w w') : Rdr w' g l e := h.below k h.lt
theorem Rdr.keeps {G : Nat → Prop} (h : Rdr w g l e) (k : Keeps G w w') (hG : ∀ k, k ≤ g → ¬ G k) : Rdr w' g l e :=
  h.below (k.under (Nat.succ_le_of_lt h.lt) fun i hi => hG i (by omega)) (Nat.lt_succ_self g)
end
def FailPost (w : World) (g : Nat) (e : Int) (x : Ending) (w' : World) : Prop := x = .returned (.tuple #[]) ∧ Rdr w' g [] e ∧ Keeps (Is g) w w'
theorem fail_any (g : Nat) (l : List UInt8) (e e' : Int) (w : World) (h : Rdr w g l e) :
    Calls Try.prog 87 #[.pointer (some ⟨g, 0, none⟩), .int .i64 e'] w (FailPost w g e') := by
  obtain ⟨A, n, c, hb, hr, hn, hc, hst⟩ := h
  have c0 := hb.cell 0 _ rfl
  have c1 := hb.cell 1 _ rfl
  have f0 := hb.free 0
  have f1 := hb.free 1
  have hs := (hb.set 1 (.int .i64 e')).set 0 (.slice none 0 0)
  have HS := Lib.hid hs
  have HB := Lib.hid hb
  clear hs hb
  go_enter Try.func87, Try.ntmps87
  go_wp2
  go_end0
  exact ⟨rfl, ⟨none, 0, 0, HS.out, RdB.nil, by omega, by unfold maxLen; omega, fun _ => rfl⟩, ((Keeps.refl (Is g) _).setCell (p := ⟨g, 1, none⟩) (.inl rfl) _).setCell (p := ⟨g, 0, none⟩) (.inl rfl) _⟩
/-- Whatever is left and whatever error stands: behind the next n bytes. -/
def NextPost (w : World) (g : Nat) (l : List UInt8) (e : Int) (n : Nat) (x : Ending) (w' : World) : Prop :=
  ∃ A m c l1 l2 e2, Hid (l1 = nxB l e n) ∧ Hid (l2 = nxL l e n) ∧ Hid (e2 = nxE l e n) ∧ x = .returned (.slice A m c) ∧ RdB w' g A m l1 ∧ m ≤ c ∧ c ≤ maxLen ∧ Rdr w' g l2 e2 ∧ Keeps (Is g) w w'
theorem next_any (g : Nat) (l : List UInt8) (e : Int) (k : Nat) (w : World) (h : Rdr w g l e) (hk : k ≤ 9223372036854775807) :
    Calls Try.prog 85 #[.pointer (some ⟨g, 0, none⟩), .int .i64 k] w (NextPost w g l e k) := by
  have H := Lib.hid h
  obtain ⟨A, n, c, hb, hr, hn, hc, hst⟩ := h
  have c0 := hb.cell 0 _ rfl
  have c1 := hb.cell 1 _ rfl
  have f0 := hb.free 0
  have hln := hr.len
  have hcm := hc
  unfold maxLen at hcm
  by_cases he : e = 0
  · subst he
    by_cases hlt : n < k
    · have HB := Lib.hid hb
      have HLN := Lib.hid hln
      clear hb hln
      go_enter Try.func85, Try.ntmps85
      go_wp2_with fail
      refine (fail_any g l 0 3 _ H.out).mono ?_
      rintro x w1 ⟨rfl, hr1, hk1⟩
      go_wp2
      go_ret
      refine ⟨none, 0, 0, [], [], 3, ?_, ?_, ?_, rfl, RdB.nil, by omega, by unfold maxLen; omega, hr1, hk1⟩
      · show _ = _; unfold nxB; rw [if_neg (by rw [HLN.out]; omega)]
      · show _ = _; unfold nxL; rw [if_neg (by rw [HLN.out]; omega)]
      · show _ = _; unfold nxE; rw [if_pos rfl, if_neg (by rw [HLN.out]; omega)]
    · have hkn : k ≤ n := by omega
      obtain ⟨Ak, hAk⟩ : ∃ Ak, (if c = k then A else A.map (fun x => x.add k)) = Ak := ⟨_, rfl⟩
      have hs := hb.set 0 (.slice Ak (n - k) (c - k))
      have hcut := hr.cut hkn hn
      have hf := hr.first hkn
      have hAk' : (if c = k then A else A.map (·.add k)) = Ak := hAk
      rw [hAk'] at hcut
      have HS := Lib.hid hs
      have HB := Lib.hid hb
      have HC := Lib.hid hcut
      have HF := Lib.hid hf
      have HLN := Lib.hid hln
      clear hb hln hs hcut hf hAk'
      go_enter Try.func85, Try.ntmps85
      go_wp2
      go_ret
      have hkp : Keeps (Is g) w (w.setCell ⟨g, 0, none⟩ (.slice Ak (n - k) (c - k))) := (Keeps.refl (Is g) _).setCell (p := ⟨g, 0, none⟩) (.inl rfl) _
      have hbl := hkp.is (Nat.le_refl g) (Nat.le_of_lt HB.out.lt)
      refine ⟨A, k, c, l.take k, l.drop k, 0, ?_, ?_, ?_, rfl, HF.out.below hbl, by omega, hc, ⟨Ak, n - k, c - k, HS.out, HC.out.below hbl, by omega, by unfold maxLen; omega, fun h => absurd rfl h⟩, hkp⟩
      · show _ = _; unfold nxB; rw [if_pos ⟨rfl, by rw [HLN.out]; omega⟩]
      · show _ = _; unfold nxL; rw [if_pos ⟨rfl, by rw [HLN.out]; omega⟩]
      · show _ = _; unfold nxE; rw [if_pos rfl, if_pos (by rw [HLN.out]; omega)]
  · have hne : (e != 0) = true := by simpa using he
    have hl0 := hst he
    subst hl0
    have HB := Lib.hid hb
    have HE := Lib.hid he
    clear hb he hln
    go_enter Try.func85, Try.ntmps85
    go_wp2
    go_ret
    refine ⟨none, 0, 0, [], [], e, ?_, ?_, ?_, rfl, RdB.nil, by omega, by unfold maxLen; omega, H.out, Keeps.refl _ _⟩
    · show _ = _; unfold nxB; rw [if_neg (fun h => HE.out h.1)]
    · show _ = _; unfold nxL; rw [if_neg (fun h => HE.out h.1)]
    · show _ = _; unfold nxE; rw [if_neg HE.out]
theorem nxB_len (l : List UInt8) (e : Int) (k : Nat) : (nxB l e k).length ≤ k := by
  unfold nxB
  split
  · rw [List.length_take]; omega
  · simp
def TakePost (w : World) (g : Nat) (l : List UInt8) (e : Int) (n : Nat) (kd : IntKind) (x : Ending) (w' : World) : Prop :=
  ∃ v l2 e2, Hid (v = num (nxB l e n)) ∧ Hid (l2 = nxL l e n) ∧ Hid (e2 = nxE l e n) ∧ x = .returned (.int kd (v : Nat)) ∧ Rdr w' g l2 e2 ∧ Keeps (Is g) w w'
def TakeRel (l1 : List UInt8) (x i : Value) : Prop := ∃ j y : Nat, j ≤ l1.length ∧ i = .int .i64 j ∧ x = .int .u64 y ∧ y = num (l1.take j)
theorem wrap_u64_nat (a : Nat) (ha : a < 2 ^ 64) : IntKind.u64.wrap (a : Int) = a := by
  simp [IntKind.wrap, IntKind.signed, IntKind.bits]
  omega
theorem ofInt_u64 (a : Nat) (ha : a < 18446744073709551616) : (BitVec.ofInt 64 (a : Int)).toNat = a := by
  rw [BitVec.ofInt_natCast, BitVec.toNat_ofNat]; exact Nat.mod_eq_of_lt (by omega)
theorem u64_or_nat (a b : Nat) (ha : a < 18446744073709551616) (hb : b < 18446744073709551616) : bits .or .u64 (a : Int) (b : Int) = ((a ||| b : Nat) : Int) := by
  have hx : a ||| b < 2 ^ 64 := Nat.or_lt_two_pow (by omega) (by omega)
  show IntKind.u64.wrap ((BitVec.ofInt 64 (a : Int) ||| BitVec.ofInt 64 (b : Int)).toNat : Int) = _
  rw [BitVec.toNat_or, ofInt_u64 a ha, ofInt_u64 b hb]
  exact wrap_u64_nat _ hx
theorem take_bits (y j : Nat) (x : UInt8) (hj : j < 8) (hy : y < 256 ^ j) : bits BinOp.or IntKind.u64 (y : Int) (IntKind.u64.wrap (IntKind.u64.wrap (x.toNat : Int) * 2 ^ (8 * j))) = ((y ||| x.toNat * 2 ^ (8 * j) : Nat) : Int) := by
  have hx := x.toNat_lt
  have hp : (2 : Nat) ^ (8 * j) ≤ 2 ^ 56 := Nat.pow_le_pow_right (by omega) (by omega)
  have hp2 : (256 : Nat) ^ j ≤ 2 ^ 56 := by
    have : (256 : Nat) ^ j = 2 ^ (8 * j) := by rw [Nat.pow_mul]
    omega
  have hxm : x.toNat * 2 ^ (8 * j) < 18446744073709551616 := by
    have := Nat.mul_le_mul (show x.toNat ≤ 255 by omega) hp
    omega
  rw [wrap_u64_nat _ (by omega)]
  have e : ((x.toNat : Int) * 2 ^ (8 * j)) = ((x.toNat * 2 ^ (8 * j) : Nat) : Int) := by simp
  rw [e, wrap_u64_nat _ (by omega)]
  exact u64_or_nat _ _ (by omega) hxm
theorem take8_any (g : Nat) (l : List UInt8) (e : Int) (w : World) (h : Rdr w g l e) :
    Calls Try.prog 64 #[.pointer (some ⟨g, 0, none⟩), .int .i64 1] w (TakePost w g l e 1 .u8) := by
  go_enter Try.func64, Try.ntmps64
  go_wp2_with fail
  refine (next_any g l e 1 _ h (by omega)).mono ?_
  rintro x w1 ⟨A, m, c, l1, l2, e2, hl1, hl2, he2, rfl, hr, hmc, hcm, hR, hK⟩
  have hln := hr.len
  have hm8 : m ≤ 1 := by rw [← hln, hl1.out]; exact nxB_len _ _ _
  have HLN := Lib.hid hln
  clear hln
  go_wp2
  go_loop [5, 12] (fun x i => TakeRel l1 x i) (fun _ i => m - (intOf i).toNat)
  case atStart => exact ⟨0, 0, by omega, rfl, rfl, by simp [num]⟩
  case round =>
    obtain ⟨j, y, hj, rfl, rfl, hy⟩ := hrel
    have HY := Lib.hid hy
    have hjm : j ≤ m := by rw [← HLN.out]; exact hj
    have hyl := num_take_lt l1 j hj
    rw [← hy] at hyl
    have HYL := Lib.hid hyl
    clear hy
    by_cases hlt : j < m
    · obtain ⟨b, off, x, hA, hbB, hx, hcell⟩ := hr.at_ hlt
      subst hA
      have hor := take_or l1 j x hx y HY.out
      have HV := Lib.hid (by have h1 := take_bits y j x (by omega) hyl; rw [hor] at h1; exact h1)
      have HJ : j + 1 ≤ l1.length := by rw [HLN.out]; omega
      clear hor hx hyl
      go_wp2
      refine ⟨⟨j + 1, _, HJ, by go_num, congrArg (Value.int .u64) HV.out, rfl⟩, ?_⟩
      simp [intOf]; omega
    · obtain rfl : j = m := by omega
      have hyv : y = num (nxB l e 1) := by rw [HY.out, List.take_of_length_le (by rw [HLN.out]; exact Nat.le_refl _), hl1.out]
      have hyb : y < 256 := by
        have h1 := num_lt (nxB l e 1)
        have h2 := Nat.pow_le_pow_right (show 0 < 256 by omega) (nxB_len l e 1)
        rw [hyv]
        omega
      have HYV := Lib.hid hyv
      clear hyv hyl
      go_wp2
      go_ret
      exact ⟨y, l2, e2, HYV, hl2, he2, rfl, hR, hK⟩
theorem take16_any (g : Nat) (l : List UInt8) (e : Int) (w : World) (h : Rdr w g l e) :
    Calls Try.prog 65 #[.pointer (some ⟨g, 0, none⟩), .int .i64 2] w (TakePost w g l e 2 .u16) := by
  go_enter Try.func65, Try.ntmps65
  go_wp2_with fail
  refine (next_any g l e 2 _ h (by omega)).mono ?_
  rintro x w1 ⟨A, m, c, l1, l2, e2, hl1, hl2, he2, rfl, hr, hmc, hcm, hR, hK⟩
  have hln := hr.len
  have hm8 : m ≤ 2 := by rw [← hln, hl1.out]; exact nxB_len _ _ _
  have HLN := Lib.hid hln
  clear hln
  go_wp2
  go_loop [5, 12] (fun x i => TakeRel l1 x i) (fun _ i => m - (intOf i).toNat)
  case atStart => exact ⟨0, 0, by omega, rfl, rfl, by simp [num]⟩
  case round =>
    obtain ⟨j, y, hj, rfl, rfl, hy⟩ := hrel
    have HY := Lib.hid hy
    have hjm : j ≤ m := by rw [← HLN.out]; exact hj
    have hyl := num_take_lt l1 j hj
    rw [← hy] at hyl
    have HYL := Lib.hid hyl
    clear hy
    by_cases hlt : j < m
    · obtain ⟨b, off, x, hA, hbB, hx, hcell⟩ := hr.at_ hlt
      subst hA
      have hor := take_or l1 j x hx y HY.out
      have HV := Lib.hid (by have h1 := take_bits y j x (by omega) hyl; rw [hor] at h1; exact h1)
      have HJ : j + 1 ≤ l1.length := by rw [HLN.out]; omega
      clear hor hx hyl
      go_wp2
      refine ⟨⟨j + 1, _, HJ, by go_num, congrArg (Value.int .u64) HV.out, rfl⟩, ?_⟩
      simp [intOf]; omega
    · obtain rfl : j = m := by omega
      have hyv : y = num (nxB l e 2) := by rw [HY.out, List.take_of_length_le (by rw [HLN.out]; exact Nat.le_refl _), hl1.out]
      have hyb : y < 65536 := by
        have h1 := num_lt (nxB l e 2)
        have h2 := Nat.pow_le_pow_right (show 0 < 256 by omega) (nxB_len l e 2)
        rw [hyv]
        omega
      have HYV := Lib.hid hyv
      clear hyv hyl
      go_wp2
      go_ret
      exact ⟨y, l2, e2, HYV, hl2, he2, rfl, hR, hK⟩
theorem take32_any (g : Nat) (l : List UInt8) (e : Int) (w : World) (h : Rdr w g l e) :
    Calls Try.prog 63 #[.pointer (some ⟨g, 0, none⟩), .int .i64 4] w (TakePost w g l e 4 .u32) := by
  go_enter Try.func63, Try.ntmps63
  go_wp2_with fail
  refine (next_any g l e 4 _ h (by omega)).mono ?_
  rintro x w1 ⟨A, m, c, l1, l2, e2, hl1, hl2, he2, rfl, hr, hmc, hcm, hR, hK⟩
  have hln := hr.len
  have hm8 : m ≤ 4 := by rw [← hln, hl1.out]; exact nxB_len _ _ _
  have HLN := Lib.hid hln
  clear hln
  go_wp2
  go_loop [5, 12] (fun x i => TakeRel l1 x i) (fun _ i => m - (intOf i).toNat)
  case atStart => exact ⟨0, 0, by omega, rfl, rfl, by simp [num]⟩
  case round =>
    obtain ⟨j, y, hj, rfl, rfl, hy⟩ := hrel
    have HY := Lib.hid hy
    have hjm : j ≤ m := by rw [← HLN.out]; exact hj
    have hyl := num_take_lt l1 j hj
    rw [← hy] at hyl
    have HYL := Lib.hid hyl
    clear hy
    by_cases hlt : j < m
    · obtain ⟨b, off, x, hA, hbB, hx, hcell⟩ := hr.at_ hlt
      subst hA
      have hor := take_or l1 j x hx y HY.out
      have HV := Lib.hid (by have h1 := take_bits y j x (by omega) hyl; rw [hor] at h1; exact h1)
      have HJ : j + 1 ≤ l1.length := by rw [HLN.out]; omega
      clear hor hx hyl
      go_wp2
      refine ⟨⟨j + 1, _, HJ, by go_num, congrArg (Value.int .u64) HV.out, rfl⟩, ?_⟩
      simp [intOf]; omega
    · obtain rfl : j = m := by omega
      have hyv : y = num (nxB l e 4) := by rw [HY.out, List.take_of_length_le (by rw [HLN.out]; exact Nat.le_refl _), hl1.out]
      have hyb : y < 4294967296 := by
        have h1 := num_lt (nxB l e 4)
        have h2 := Nat.pow_le_pow_right (show 0 < 256 by omega) (nxB_len l e 4)
        rw [hyv]
        omega
      have HYV := Lib.hid hyv
      clear hyv hyl
      go_wp2
      go_ret
      exact ⟨y, l2, e2, HYV, hl2, he2, rfl, hR, hK⟩
theorem take64_any (g : Nat) (l : List UInt8) (e : Int) (w : World) (h : Rdr w g l e) :
    Calls Try.prog 90 #[.pointer (some ⟨g, 0, none⟩), .int .i64 8] w (TakePost w g l e 8 .u64) := by
  go_enter Try.func90, Try.ntmps90
  go_wp2_with fail
  refine (next_any g l e 8 _ h (by omega)).mono ?_
  rintro x w1 ⟨A, m, c, l1, l2, e2, hl1, hl2, he2, rfl, hr, hmc, hcm, hR, hK⟩
  have hln := hr.len
  have hm8 : m ≤ 8 := by rw [← hln, hl1.out]; exact nxB_len _ _ _
  have HLN := Lib.hid hln
  clear hln
  go_wp2
  go_loop [5, 12] (fun x i => TakeRel l1 x i) (fun _ i => m - (intOf i).toNat)
  case atStart => exact ⟨0, 0, by omega, rfl, rfl, by simp [num]⟩
  case round =>
    obtain ⟨j, y, hj, rfl, rfl, hy⟩ := hrel
    have HY := Lib.hid hy
    have hjm : j ≤ m := by rw [← HLN.out]; exact hj
    have hyl := num_take_lt l1 j hj
    rw [← hy] at hyl
    have HYL := Lib.hid hyl
    clear hy
    by_cases hlt : j < m
    · obtain ⟨b, off, x, hA, hbB, hx, hcell⟩ := hr.at_ hlt
      subst hA
      have hor := take_or l1 j x hx y HY.out
      have HV := Lib.hid (by have h1 := take_bits y j x (by omega) hyl; rw [hor] at h1; exact h1)
      have HJ : j + 1 ≤ l1.length := by rw [HLN.out]; omega
      clear hor hx hyl
      go_wp2
      refine ⟨⟨j + 1, _, HJ, by go_num, congrArg (Value.int .u64) HV.out, rfl⟩, ?_⟩
      simp [intOf]; omega
    · obtain rfl : j = m := by omega
      have hyv : y = num (nxB l e 8) := by rw [HY.out, List.take_of_length_le (by rw [HLN.out]; exact Nat.le_refl _), hl1.out]
      have hyb : y < 18446744073709551616 := by
        have h1 := num_lt (nxB l e 8)
        have h2 := Nat.pow_le_pow_right (show 0 < 256 by omega) (nxB_len l e 8)
        rw [hyv]
        omega
      have HYV := Lib.hid hyv
      clear hyv hyl
      go_wp2
      go_ret
      exact ⟨y, l2, e2, HYV, hl2, he2, rfl, hR, hK⟩
theorem rU8_any (g : Nat) (l : List UInt8) (e : Int) (w : World) (h : Rdr w g l e) :
    Calls Try.prog 44 #[.pointer (some ⟨g, 0, none⟩)] w (TakePost w g l e 1 .u8) := by
  go_enter Try.func44, Try.ntmps44
  go_wp2_with fail
  refine (take8_any g l e _ h).mono ?_
  rintro x w1 ⟨v, l2, e2, hv, hl2, he2, rfl, hR, hK⟩
  go_wp2
  go_ret
  exact ⟨v, l2, e2, hv, hl2, he2, rfl, hR, hK⟩
theorem rU16_any (g : Nat) (l : List UInt8) (e : Int) (w : World) (h : Rdr w g l e) :
    Calls Try.prog 45 #[.pointer (some ⟨g, 0, none⟩)] w (TakePost w g l e 2 .u16) := by
  go_enter Try.func45, Try.ntmps45
  go_wp2_with fail
  refine (take16_any g l e _ h).mono ?_
  rintro x w1 ⟨v, l2, e2, hv, hl2, he2, rfl, hR, hK⟩
  go_wp2
  go_ret
  exact ⟨v, l2, e2, hv, hl2, he2, rfl, hR, hK⟩
theorem rU32_any (g : Nat) (l : List UInt8) (e : Int) (w : World) (h : Rdr w g l e) :
    Calls Try.prog 43 #[.pointer (some ⟨g, 0, none⟩)] w (TakePost w g l e 4 .u32) := by
  go_enter Try.func43, Try.ntmps43
  go_wp2_with fail
  refine (take32_any g l e _ h).mono ?_
  rintro x w1 ⟨v, l2, e2, hv, hl2, he2, rfl, hR, hK⟩
  go_wp2
  go_ret
  exact ⟨v, l2, e2, hv, hl2, he2, rfl, hR, hK⟩
theorem rU64_any (g : Nat) (l : List UInt8) (e : Int) (w : World) (h : Rdr w g l e) :
    Calls Try.prog 86 #[.pointer (some ⟨g, 0, none⟩)] w (TakePost w g l e 8 .u64) := by
  go_enter Try.func86, Try.ntmps86
  go_wp2_with fail
  refine (take64_any g l e _ h).mono ?_
  rintro x w1 ⟨v, l2, e2, hv, hl2, he2, rfl, hR, hK⟩
  go_wp2
  go_ret
  exact ⟨v, l2, e2, hv, hl2, he2, rfl, hR, hK⟩

theorem OwB.empty (w : World) (base : Nat) (hb : base ≤ w.heap.size) : OwB (w.alloc (.cells #[] 5)) base (some ⟨w.heap.size, 0, none⟩) 0 0 [] :=
  ⟨by simp [bv], .inr ⟨w.heap.size, 0, #[], (0, 0), rfl, hb, heap_alloc_new w _, .inl (Nat.le_refl _), Nat.le_refl _, by unfold maxLen; omega, by simp, by simp [bv]⟩⟩
theorem clone_any (A : Option Addr) (n c : Nat) (l : List UInt8) (w : World) (h : RdB w w.heap.size A n l) (hn : n ≤ 1073741824) :
    Calls Try.prog 62 #[.slice A n c] w (LayPost w l) := by
  have hq := fun W => Lib.run_eql_slice_nil (P := Try.prog) W 25 5 A n c 0 0 Try.underlying25
  cases A with
  | none =>
    have hl : l = [] := by
      rcases Nat.eq_zero_or_pos n with h0 | h0
      · exact List.eq_nil_of_length_eq_zero (by rw [h.len]; exact h0)
      · obtain ⟨ad, e, _⟩ := h.2 h0; cases e
    subst hl
    go_enter Try.func62, Try.ntmps62
    go_wp2
    go_ret
    exact ⟨none, 0, 0, [], rfl, rfl, OwB.nil _ _, Below.refl _ _⟩
  | some ad =>
    have H' := Lib.hid ((h.alloc (Nat.le_refl _) (.cells #[] 5)).src (P := Try.prog) (c := c) 25 5 Try.underlying25)
    go_enter Try.func62, Try.ntmps62
    go_wp2_with (at_builtin; go_must (refine wpList_appendB bytesElem rfl (.tmp 5) (.tmp 6) 25 rfl w.heap.size _ 0 0 [] rfl (OwB.empty w _ (Nat.le_refl _)) _ rfl n l H'.out (by omega) (by simp) ?_); intro A2 n2 c2 l2 w2 hl2 hn2 hown2 hb2 hg2)
    go_ret
    exact ⟨A2, n2, c2, l2, by rw [hl2.out]; rfl, rfl, hown2, ((Below.refl _ _).alloc (Nat.le_refl _) _).trans hb2⟩
def ReadPost (w : World) (l : List UInt8) (x : Ending) (w' : World) : Prop := ∃ g, x = .returned (.pointer (some ⟨g, 0, none⟩)) ∧ w.heap.size ≤ g ∧ Rdr w' g l 0 ∧ Below w.heap.size w w'
theorem read_any (A : Option Addr) (n c : Nat) (l : List UInt8) (w : World) (h : RdB w w.heap.size A n l) (hn : n ≤ 1073741824) :
    Calls Try.prog 42 #[.slice A n c] w (ReadPost w l) := by
  go_enter Try.func42, Try.ntmps42
  go_wp2_with fail
  refine (clone_any A n c l _ h hn).mono ?_
  rintro x w1 ⟨A1, n1, c1, l1, hl1, rfl, hown1, hb1⟩
  obtain rfl := hl1.out
  have hcc := hown1.cap
  go_wp2
  go_ret
  exact ⟨w1.heap.size, rfl, hb1.size, ⟨A1, n1, c1, Blk.new _ _ _, hown1.rd.alloc (Nat.le_refl _) _, hcc.1, hcc.2, fun h => absurd rfl h⟩, hb1.alloc hb1.size _⟩
def StrPost (w : World) (g : Nat) (b l : List UInt8) (e : Int) (x : Ending) (w' : World) : Prop :=
  ∃ l1 l2 e2, Hid (l1 = b) ∧ Hid (l2 = l) ∧ Hid (e2 = e) ∧ x = .returned (.string (st l1)) ∧ Rdr w' g l2 e2 ∧ Keeps (Is g) w w'
theorem rText_any (g : Nat) (l : List UInt8) (e : Int) (w : World) (h : Rdr w g l e) :
    Calls Try.prog 66 #[.pointer (some ⟨g, 0, none⟩)] w (StrPost w g (txB l e) (txL l e) (txE l e)) := by
  go_enter Try.func66, Try.ntmps66
  go_wp2_with fail
  refine (rU16_any g l e _ h).mono ?_
  rintro x w1 ⟨v, l2, e2, hv, hl2, he2, rfl, hR, hK⟩
  have hvb : v ≤ 65535 := by
    have h1 := num_lt (nxB l e 2)
    have h2 := Nat.pow_le_pow_right (show 0 < 256 by omega) (nxB_len l e 2)
    rw [hv.out]
    omega
  go_wp2_with fail
  refine (next_any g l2 e2 v _ hR (by omega)).mono ?_
  rintro x w2 ⟨A, m, c, l3, l4, e4, hl3, hl4, he4, rfl, hr, hmc, hcm, hR2, hK2⟩
  have hcv := str_of (c := c) (hr.more (Nat.le_of_lt hR2.lt)) (Below.refl _ _)
  go_wp2
  go_ret
  refine ⟨l3, l4, e4, ?_, ?_, ?_, rfl, hR2, hK.trans hK2⟩
  · show _ = _; rw [hl3.out, hl2.out, he2.out, hv.out]; rfl
  · show _ = _; rw [hl4.out, hl2.out, he2.out, hv.out]; rfl
  · show _ = _; rw [he4.out, hl2.out, he2.out, hv.out]; rfl
def BytesPost (w : World) (g : Nat) (b l : List UInt8) (e : Int) (x : Ending) (w' : World) : Prop :=
  ∃ A m c l1 l2 e2, Hid (l1 = b) ∧ Hid (l2 = l) ∧ Hid (e2 = e) ∧ x = .returned (.slice A m c) ∧ OwB w' w.heap.size A m c l1 ∧ Rdr w' g l2 e2 ∧ Keeps (Is g) w w'
theorem rEnd_any (g : Nat) (l : List UInt8) (e : Int) (w : World) (h : Rdr w g l e) :
    Calls Try.prog 48 #[.pointer (some ⟨g, 0, none⟩)] w fun x w' => x = .returned (.int .i64 (endE l e)) ∧ w = w' := by
  obtain ⟨A, n, c, hb, hr, hn, hc, hst⟩ := h
  have c0 := hb.cell 0 _ rfl
  have c1 := hb.cell 1 _ rfl
  have hln := hr.len
  generalize hE : endE l e = E
  unfold endE at hE
  clear hb
  unfold maxLen at hc
  by_cases he : e = 0
  · subst he
    by_cases h0 : 0 < n
    · rw [if_pos ⟨rfl, by omega⟩] at hE
      subst hE
      clear hln
      go_enter Try.func48, Try.ntmps48
      go_wp2
      go_ret
      exact ⟨rfl, rfl⟩
    · rw [if_neg (by omega)] at hE
      subst hE
      clear hln
      have hd : decide ((0 : Int) < n) = false := by simp; omega
      have hd2 : decide (0 < n) = false := by simp; omega
      go_enter Try.func48, Try.ntmps48
      go_wp2
      go_ret
      exact ⟨rfl, rfl⟩
  · rw [if_neg (fun h => he h.1)] at hE
    subst hE
    clear hln
    have hd : (e == 0) = false := by simpa using he
    go_enter Try.func48, Try.ntmps48
    go_wp2
    go_ret
    exact ⟨rfl, rfl⟩
theorem rData_any (g : Nat) (l : List UInt8) (e most : Int) (w : World) (h : Rdr w g l e) (hm1 : -9223372036854775808 ≤ most) (hm2 : most ≤ 9223372036854775807) (hlb : l.length ≤ 1048576) :
    Calls Try.prog 69 #[.pointer (some ⟨g, 0, none⟩), .int .i64 most] w (BytesPost w g (dtB l e most) (dtL l e most) (dtE l e most)) := by
  go_enter Try.func69, Try.ntmps69
  go_wp2_with fail
  refine (rU32_any g l e _ h).mono ?_
  rintro x w1 ⟨v, l2, e2, hv, hl2, he2, rfl, hR, hK⟩
  have hvb : v ≤ 4294967295 := by
    have h1 := num_lt (nxB l e 4)
    have h2 := Nat.pow_le_pow_right (show 0 < 256 by omega) (nxB_len l e 4)
    rw [hv.out]
    omega
  have H1 := Lib.hid hR
  obtain ⟨A, n, c, hb, hr, hn, hc, hst⟩ := hR
  have c1 := hb.cell 1 _ rfl
  clear hb
  by_cases hbad : dtBad l e most
  · have h0 : e2 = 0 := by rw [he2.out]; exact hbad.1
    have hlt : most < v := by rw [hv.out]; exact hbad.2
    subst h0
    have HBAD := Lib.hid hbad
    clear hbad
    go_wp2_with fail
    refine (fail_any g l2 0 4 _ H1.out).mono ?_
    rintro x w2 ⟨rfl, hR2, hK2⟩
    go_wp2_with fail
    refine (next_any g [] 4 v _ hR2 (by omega)).mono ?_
    rintro x w3 ⟨A3, m, c3, l3, l4, e4, hl3, hl4, he4, rfl, hr3, hmc, hcm, hR3, hK3⟩
    have hm : m ≤ 1073741824 := by
      rw [← hr3.len, hl3.out]
      exact Nat.le_trans (nxB_le _ _ _) (by simp)
    go_wp2_with fail
    refine (clone_any A3 m c3 l3 _ (hr3.more (Nat.le_of_lt hR3.lt)) hm).mono ?_
    rintro x w5 ⟨A5, n5, c5, l5, hl5, rfl, hown5, hb5⟩
    go_wp2
    go_ret
    have e1 : l3 = [] := by rw [hl3.out]; rfl
    have e2 : l4 = [] := by rw [hl4.out]; rfl
    refine ⟨A5, n5, c5, l5, l4, e4, ?_, ?_, ?_, rfl, hown5.lower (Nat.le_trans hK.size (Nat.le_trans hK2.size hK3.size)), hR3.up hb5, ((hK.trans hK2).trans hK3).trans (.of_below hb5)⟩
    · show _ = _; rw [hl5.out, e1]; unfold dtB; rw [if_pos HBAD.out]
    · show _ = _; rw [e2]; unfold dtL; rw [if_pos HBAD.out]
    · show _ = _; rw [he4.out]; unfold dtE; rw [if_pos HBAD.out]; rfl
  · have HBAD := Lib.hid hbad
    by_cases h0 : e2 = 0
    all_goals
      first
        | (have hle : ¬ (most < v) := by
             intro hh; apply hbad; unfold dtBad; rw [← he2.out, ← hv.out]; exact ⟨h0, hh⟩
           subst h0
           clear hbad
           go_wp2_with fail
           refine (next_any g l2 0 v _ H1.out (by omega)).mono ?_)
        | (have hd : (e2 == 0) = false := by simpa using h0
           clear hbad h0
           go_wp2_with fail
           refine (next_any g l2 e2 v _ H1.out (by omega)).mono ?_)
      rintro x w2 ⟨A3, m, c3, l3, l4, e4, hl3, hl4, he4, rfl, hr3, hmc, hcm, hR3, hK3⟩
      have hm : m ≤ 1073741824 := by
        rw [← hr3.len, hl3.out]
        exact Nat.le_trans (nxB_le _ _ _) (by rw [hl2.out]; exact Nat.le_trans (nxL_le _ _ _) (by omega))
      go_wp2_with fail
      refine (clone_any A3 m c3 l3 _ (hr3.more (Nat.le_of_lt hR3.lt)) hm).mono ?_
      rintro x w5 ⟨A5, n5, c5, l5, hl5, rfl, hown5, hb5⟩
      go_wp2
      go_ret
      refine ⟨A5, n5, c5, l5, l4, e4, ?_, ?_, ?_, rfl, hown5.lower (Nat.le_trans hK.size hK3.size), hR3.up hb5, (hK.trans hK3).trans (.of_below hb5)⟩
      · show _ = _; rw [hl5.out, hl3.out, hl2.out, he2.out, hv.out]; unfold dtB; rw [if_neg HBAD.out]
      · show _ = _; rw [hl4.out, hl2.out, he2.out, hv.out]; unfold dtL; rw [if_neg HBAD.out]
      · show _ = _; rw [he4.out, hl2.out, he2.out, hv.out]; unfold dtE; rw [if_neg HBAD.out]



theorem Blk.abv {w : World} {g : Nat} {t : TypeId} {cs : List Value} (h : Blk w g t cs) (i : Nat) (v : Value) (hv : cs[i]? = some v) : ∀ p : Abv NoG w, p.val.cell? ⟨g, i, none⟩ = some v :=
  fun p => (h.up p.below).cell i v hv
/-- The reference's reader in block g stands ahead of the bytes l, its error is e. -/
def RRd (w : World) (B g N : Nat) (l : List UInt8) (e : Int) : Prop :=
  ∃ A n c I b, Blk w g 81 [.slice A n c, .int .i64 (I : Nat), .int .i64 e] ∧ RdB w B A n b ∧ n ≤ c ∧ c ≤ maxLen ∧ I ≤ n ∧ (B ≤ g ∧ n = N) ∧ (e = 0 → l = b.drop I) ∧ (e ≠ 0 → l = [])
section
variable {w w' : World} {B g N : Nat} {l : List UInt8} {e : Int}
theorem RRd.lt (h : RRd w B g N l e) : g < w.heap.size := by obtain ⟨_, _, _, _, _, h, _⟩ := h; exact h.lt
theorem RRd.low (h : RRd w B g N l e) : B ≤ g := by obtain ⟨_, _, _, _, _, _, _, _, _, _, h, _⟩ := h; exact h.1
theorem RRd.below {B' : Nat} (h : RRd w B g N l e) (k : Below B' w w') (hg : g < B') : RRd w' B g N l e := by
  have hl := h.low
  obtain ⟨A, n, c, I, b, h1, h2, h3⟩ := h
  exact ⟨A, n, c, I, b, h1.below k hg, h2.below (k.mono (by omega)), h3⟩
theorem RRd.up (h : RRd w B g N l e) (k : Below w.heap.size w w') : RRd w' B g N l e := h.below k h.lt
theorem RRd.drew (h : RRd w B g N l e) : RRd w.drew B g N l e := h
end
def RBytesPost (w : World) (B g N : Nat) (l : List UInt8) (e : Int) (n : Nat) (x : Ending) (w' : World) : Prop :=
  ∃ A m c l1 l2 e2, Hid (l1 = nxB l e n) ∧ Hid (l2 = nxL l e n) ∧ Hid (e2 = nxE l e n) ∧ x = .returned (.slice A m c) ∧ RdB w' B A m l1 ∧ m ≤ c ∧ c ≤ maxLen ∧ RRd w' B g N l2 e2 ∧ Keeps (Is g) w w'
theorem refBytes_any (B g N : Nat) (l : List UInt8) (e : Int) (k : Nat) (w : World) (h : RRd w B g N l e) (hk : k ≤ 4294967296) :
    Calls Try.prog 71 #[.pointer (some ⟨g, 0, none⟩), .int .i64 k] w (RBytesPost w B g N l e k) := by
  have H := Lib.hid h
  obtain ⟨A, n, c, I, b, hb, hr, hn, hc, hI, hBg, hl0, hl1⟩ := h
  have c0 := hb.cell 0 _ rfl
  have c1 := hb.cell 1 _ rfl
  have c2 := hb.cell 2 _ rfl
  have f1 := hb.free 1
  have f2 := hb.free 2
  have d0 := (hb.drew).abv 0 _ rfl
  have d1 := (hb.drew).abv 1 _ rfl
  have hln := hr.len
  have hcm := hc
  unfold maxLen at hcm
  by_cases he : e = 0
  · subst he
    have hl := hl0 rfl
    subst hl
    have hlen : (b.drop I).length = n - I := by rw [List.length_drop, hln]
    have hdr : IntKind.i64.wrap ((n : Int) - I) = (n : Int) - I := IntWalk.i64_in _ (by omega)
    by_cases hlt : n - I < k
    · have ht : decide ((n : Int) - I < k) = true := by simp; omega
      have hs := (hb.drew).set 2 (.int .i64 3)
      have HS := Lib.hid hs
      have HB := Lib.hid hb
      have HLN := Lib.hid hlen
      clear hb hln hs hlen hl0 hl1
      go_enter Try.func71, Try.ntmps71
      go_wp2
      refine wp_region_plan NoG [(0, false), (1, false), (2, false), (3, false), (4, false), (5, false), (6, false), (7, false), (8, false), (9, false), (10, false), (11, false)] (by kernel_rfl) (by kernel_rfl) ?_
      repeat (refine plan_take (by simp only [List.getElem?_toArray, List.getElem?_cons_succ, List.getElem?_cons_zero]; exact rfl) ?_; go_big_quiet_step (fail); refine wpQuiet_nil ?_)
      refine plan_end ?_
      go_wp2
      go_ret
      have hkp : Keeps (Is g) w (w.setCell ⟨g, 2, none⟩ (.int .i64 3)).drew := ((Keeps.refl (Is g) _).setCell (p := ⟨g, 2, none⟩) (.inl rfl) _).drew
      have hbl := hkp.is hBg.1 (Nat.le_of_lt HB.out.lt)
      refine ⟨none, 0, 0, [], [], 3, ?_, ?_, ?_, rfl, RdB.nil, by omega, by unfold maxLen; omega, ⟨A, n, c, I, b, (HB.out.set 2 _).drew, hr.below hbl, hn, hc, hI, hBg, fun h => absurd h (by omega), fun _ => rfl⟩, hkp⟩
      · show _ = _; unfold nxB; rw [if_neg (by rw [HLN.out]; omega)]
      · show _ = _; unfold nxL; rw [if_neg (by rw [HLN.out]; omega)]
      · show _ = _; unfold nxE; rw [if_pos rfl, if_neg (by rw [HLN.out]; omega)]
    · have ht : decide ((n : Int) - I < k) = false := by simp; omega
      obtain ⟨Ak, hAk⟩ : ∃ Ak, (if c = I then A else A.map (fun x => x.add I)) = Ak := ⟨_, rfl⟩
      have hcut := hr.cut hI hn
      have hAk' : (if c = I then A else A.map (·.add I)) = Ak := hAk
      rw [hAk'] at hcut
      have hf := hcut.first (k := k) (by omega)
      have hdr2 : IntKind.i64.wrap ((I : Int) + k) = (I : Int) + k := IntWalk.i64_in _ (by omega)
      have d0' := hb.drew.drew.abv 0 _ rfl
      have d1' := hb.drew.drew.abv 1 _ rfl
      have hIk : I ≤ I + k := by omega
      have hIc : I + k ≤ c := by omega
      have HB := Lib.hid hb
      have HF := Lib.hid hf
      have HLN := Lib.hid hlen
      clear hb hln hlen hl0 hl1 hcut hf hAk'
      go_enter Try.func71, Try.ntmps71
      go_wp2
      refine wp_region_plan NoG [(0, false), (1, false), (2, false), (3, false), (4, false), (5, false), (6, false), (7, false), (8, false), (9, false), (10, false), (11, false)] (by kernel_rfl) (by kernel_rfl) ?_
      repeat (refine plan_take (by simp only [List.getElem?_toArray, List.getElem?_cons_succ, List.getElem?_cons_zero]; exact rfl) ?_; go_big_quiet_step (fail); refine wpQuiet_nil ?_)
      refine plan_end ?_
      go_wp2
      refine wp_region_plan NoG [(0, false), (1, false), (2, false), (3, false), (4, false), (5, false), (6, false), (7, false), (8, false), (9, false), (10, false), (11, false), (12, false), (13, false), (14, false), (15, false)] (by kernel_rfl) (by kernel_rfl) ?_
      repeat (refine plan_take (by simp only [List.getElem?_toArray, List.getElem?_cons_succ, List.getElem?_cons_zero]; exact rfl) ?_; go_big_quiet_step (fail); refine wpQuiet_nil ?_)
      refine plan_end ?_
      go_wp2
      go_ret
      have hkp : Keeps (Is g) w (w.setCell ⟨g, 1, none⟩ (.int .i64 ((I + k : Nat) : Int))).drew.drew := ((Keeps.refl (Is g) _).setCell (p := ⟨g, 1, none⟩) (.inl rfl) _).drew.drew
      have hbl := hkp.is hBg.1 (Nat.le_of_lt HB.out.lt)
      refine ⟨Ak, k, c - I, (b.drop I).take k, (b.drop I).drop k, 0, ?_, ?_, ?_, ?_, HF.out.below hbl, by omega, by unfold maxLen; omega, ⟨A, n, c, I + k, b, (HB.out.set 1 _).drew.drew, hr.below hbl, hn, hc, by omega, hBg, fun _ => by rw [List.drop_drop], fun h => absurd rfl h⟩, hkp⟩
      · show _ = _; unfold nxB; rw [if_pos ⟨rfl, by rw [HLN.out]; omega⟩]
      · show _ = _; unfold nxL; rw [if_pos ⟨rfl, by rw [HLN.out]; omega⟩]
      · show _ = _; unfold nxE; rw [if_pos rfl, if_pos (by rw [HLN.out]; omega)]
      · have e : I + k - I = k := by omega
        show Ending.returned (.slice Ak (I + k - I) (c - I)) = _
        rw [e]
  · have hne : (e != 0) = true := by simpa using he
    have hl := hl1 he
    subst hl
    have HB := Lib.hid hb
    have HE := Lib.hid he
    clear hb he hln hl0 hl1
    go_enter Try.func71, Try.ntmps71
    go_wp2
    go_ret
    refine ⟨none, 0, 0, [], [], e, ?_, ?_, ?_, rfl, RdB.nil, by omega, by unfold maxLen; omega, H.out, Keeps.refl _ _⟩
    · show _ = _; unfold nxB; rw [if_neg (fun h => HE.out h.1)]
    · show _ = _; unfold nxL; rw [if_neg (fun h => HE.out h.1)]
    · show _ = _; unfold nxE; rw [if_neg HE.out]
def RNumPost (w : World) (B g N : Nat) (l : List UInt8) (e : Int) (n : Nat) (x : Ending) (w' : World) : Prop :=
  ∃ v l2 e2, Hid (v = num (nxB l e n)) ∧ Hid (l2 = nxL l e n) ∧ Hid (e2 = nxE l e n) ∧ x = .returned (.int .u64 (v : Nat)) ∧ RRd w' B g N l2 e2 ∧ Keeps (Is g) w w'
def RNumRel (l1 : List UInt8) (x i : Value) : Prop := ∃ (j y : Nat) (z : Int), j ≤ l1.length ∧ z = (j : Int) - 1 ∧ i = .int .i64 z ∧ x = .int .u64 y ∧ y = num (l1.drop j)
theorem refNumber_any (B g N : Nat) (l : List UInt8) (e : Int) (k : Nat) (w : World) (h : RRd w B g N l e) (hk : k ≤ 8) :
    Calls Try.prog 49 #[.pointer (some ⟨g, 0, none⟩), .int .i64 k] w (RNumPost w B g N l e k) := by
  go_enter Try.func49, Try.ntmps49
  go_wp2_with fail
  refine (refBytes_any B g N l e k _ h (by omega)).mono ?_
  rintro x w1 ⟨A, m, c, l1, l2, e2, hl1, hl2, he2, rfl, hr, hmc, hcm, hR, hK⟩
  have hln := hr.len
  have hm8 : m ≤ k := by rw [← hln, hl1.out]; exact nxB_len _ _ _
  have HLN := Lib.hid hln
  clear hln
  go_wp2
  go_loop [6, 7] (fun x i => RNumRel l1 x i) (fun _ i => (intOf i + 1).toNat)
  case atStart => exact ⟨m, 0, _, by rw [HLN.out]; exact Nat.le_refl _, rfl, rfl, rfl, by rw [List.drop_of_length_le (by rw [HLN.out]; exact Nat.le_refl _)]; rfl⟩
  case round =>
    obtain ⟨j, y, z, hj, hz, rfl, rfl, hy⟩ := hrel
    have HY := Lib.hid hy
    have hjm : j ≤ m := by rw [← HLN.out]; exact hj
    have hyl := num_lt (l1.drop j)
    rw [← hy, List.length_drop, HLN.out] at hyl
    clear hy
    rcases Nat.eq_zero_or_pos j with hj0 | hj0
    · subst hj0
      obtain rfl : z = -1 := by omega
      have hyv : y = num (nxB l e k) := by rw [HY.out, List.drop_zero, hl1.out]
      have HYV := Lib.hid hyv
      clear hyv hyl hz
      go_wp2
      go_ret
      exact ⟨y, l2, e2, HYV, hl2, he2, rfl, hR, hK⟩
    · obtain ⟨i, rfl⟩ : ∃ i, j = i + 1 := ⟨j - 1, by omega⟩
      obtain rfl : z = (i : Int) := by omega
      obtain ⟨b, off, x, hA, hbB, hx, hcell⟩ := hr.at_ (k := i) (by omega)
      subst hA
      have hp : 256 ^ (m - (i + 1)) ≤ 256 ^ 7 := Nat.pow_le_pow_right (by omega) (by omega)
      have hy7 : y < 72057594037927936 := by omega
      have hxl := x.toNat_lt
      have hnx : 256 * y + x.toNat = num (l1.drop i) := by
        have hi : i < l1.length := by omega
        rw [List.drop_eq_getElem_cons hi, num, HY.out]
        have : l1[i] = x := (List.getElem?_eq_some_iff.1 hx).2
        rw [this]; omega
      have HN := Lib.hid hnx
      clear hnx hx hyl hp hz
      go_wp2
      refine ⟨⟨i, 256 * y + x.toNat, _, by omega, rfl, rfl, by go_num, HN.out⟩, ?_⟩
      simp [intOf]
def RStrPost (w : World) (B g N : Nat) (b l : List UInt8) (e : Int) (x : Ending) (w' : World) : Prop :=
  ∃ l1 l2 e2, Hid (l1 = b) ∧ Hid (l2 = l) ∧ Hid (e2 = e) ∧ x = .returned (.string (st l1)) ∧ RRd w' B g N l2 e2 ∧ Keeps (Is g) w w'
theorem refRText_any (B g N : Nat) (l : List UInt8) (e : Int) (w : World) (h : RRd w B g N l e) :
    Calls Try.prog 72 #[.pointer (some ⟨g, 0, none⟩)] w (RStrPost w B g N (txB l e) (txL l e) (txE l e)) := by
  go_enter Try.func72, Try.ntmps72
  go_wp2_with fail
  refine (refNumber_any B g N l e 2 _ h (by omega)).mono ?_
  rintro x w1 ⟨v, l2, e2, hv, hl2, he2, rfl, hR, hK⟩
  have hvb : v ≤ 65535 := by
    have h1 := num_lt (nxB l e 2)
    have h2 := Nat.pow_le_pow_right (show 0 < 256 by omega) (nxB_len l e 2)
    rw [hv.out]
    omega
  go_wp2_with fail
  refine (refBytes_any B g N l2 e2 v _ hR (by omega)).mono ?_
  rintro x w2 ⟨A, m, c, l3, l4, e4, hl3, hl4, he4, rfl, hr, hmc, hcm, hR2, hK2⟩
  have hcv := str_of (c := c) (hr.more (Nat.le_trans hR2.low (Nat.le_of_lt hR2.lt))) (Below.refl _ _)
  go_wp2
  go_ret
  refine ⟨l3, l4, e4, ?_, ?_, ?_, rfl, hR2, hK.trans hK2⟩
  · show _ = _; rw [hl3.out, hl2.out, he2.out, hv.out]; rfl
  · show _ = _; rw [hl4.out, hl2.out, he2.out, hv.out]; rfl
  · show _ = _; rw [he4.out, hl2.out, he2.out, hv.out]; rfl
def RDataPost (w : World) (B g N : Nat) (b l : List UInt8) (e : Int) (x : Ending) (w' : World) : Prop :=
  ∃ A m c l1 l2 e2, Hid (l1 = b) ∧ Hid (l2 = l) ∧ Hid (e2 = e) ∧ x = .returned (.slice A m c) ∧ RdB w' B A m l1 ∧ RRd w' B g N l2 e2 ∧ Keeps (Is g) w w'
theorem refRData_any (B g N : Nat) (l : List UInt8) (e most : Int) (w : World) (h : RRd w B g N l e) (hm1 : -9223372036854775808 ≤ most) (hm2 : most ≤ 9223372036854775807) :
    Calls Try.prog 74 #[.pointer (some ⟨g, 0, none⟩), .int .i64 most] w (RDataPost w B g N (dtB l e most) (dtL l e most) (dtE l e most)) := by
  go_enter Try.func74, Try.ntmps74
  go_wp2_with fail
  refine (refNumber_any B g N l e 4 _ h (by omega)).mono ?_
  rintro x w1 ⟨v, l2, e2, hv, hl2, he2, rfl, hR, hK⟩
  have hvb : v ≤ 4294967295 := by
    have h1 := num_lt (nxB l e 4)
    have h2 := Nat.pow_le_pow_right (show 0 < 256 by omega) (nxB_len l e 4)
    rw [hv.out]
    omega
  have H1 := Lib.hid hR
  obtain ⟨A, n, c, I, b, hb, hr, hn, hc, hI, hBg, hl0, hl1⟩ := hR
  have c2 := hb.cell 2 _ rfl
  have f2 := hb.free 2
  have HB := Lib.hid hb
  clear hb hl0 hl1
  by_cases hbad : dtBad l e most
  · have h0 : e2 = 0 := by rw [he2.out]; exact hbad.1
    have hlt : most < v := by rw [hv.out]; exact hbad.2
    subst h0
    have HBAD := Lib.hid hbad
    have hkp : Keeps (Is g) w1 (w1.setCell ⟨g, 2, none⟩ (.int .i64 4)) := (Keeps.refl (Is g) _).setCell (p := ⟨g, 2, none⟩) (.inl rfl) _
    have hbl := hkp.is hBg.1 (Nat.le_of_lt HB.out.lt)
    have hR2 : RRd (w1.setCell ⟨g, 2, none⟩ (.int .i64 4)) B g N [] 4 := ⟨A, n, c, I, b, HB.out.set 2 _, hr.below hbl, hn, hc, hI, hBg, fun h => absurd h (by omega), fun _ => rfl⟩
    clear hbad
    go_wp2_with fail
    refine (refBytes_any B g N [] 4 v _ hR2 (by omega)).mono ?_
    rintro x w3 ⟨A3, m, c3, l3, l4, e4, hl3, hl4, he4, rfl, hr3, hmc, hcm, hR3, hK3⟩
    go_wp2
    go_ret
    refine ⟨A3, m, c3, l3, l4, e4, ?_, ?_, ?_, rfl, hr3, hR3, (hK.trans hkp).trans hK3⟩
    · show _ = _; rw [hl3.out]; unfold dtB; rw [if_pos HBAD.out]; rfl
    · show _ = _; rw [hl4.out]; unfold dtL; rw [if_pos HBAD.out]; rfl
    · show _ = _; rw [he4.out]; unfold dtE; rw [if_pos HBAD.out]; rfl
  · have HBAD := Lib.hid hbad
    by_cases h0 : e2 = 0
    all_goals
      first
        | (have hle : ¬ (most < v) := by
             intro hh; apply hbad; unfold dtBad; rw [← he2.out, ← hv.out]; exact ⟨h0, hh⟩
           subst h0
           clear hbad
           go_wp2_with fail
           refine (refBytes_any B g N l2 0 v _ H1.out (by omega)).mono ?_)
        | (have hd : (e2 == 0) = false := by simpa using h0
           clear hbad h0
           go_wp2_with fail
           refine (refBytes_any B g N l2 e2 v _ H1.out (by omega)).mono ?_)
      rintro x w3 ⟨A3, m, c3, l3, l4, e4, hl3, hl4, he4, rfl, hr3, hmc, hcm, hR3, hK3⟩
      go_wp2
      go_ret
      refine ⟨A3, m, c3, l3, l4, e4, ?_, ?_, ?_, rfl, hr3, hR3, hK.trans hK3⟩
      · show _ = _; rw [hl3.out, hl2.out, he2.out, hv.out]; unfold dtB; rw [if_neg HBAD.out]
      · show _ = _; rw [hl4.out, hl2.out, he2.out, hv.out]; unfold dtL; rw [if_neg HBAD.out]
      · show _ = _; rw [he4.out, hl2.out, he2.out, hv.out]; unfold dtE; rw [if_neg HBAD.out]
end Go.Proofs.Ytoplkglnjgllnaa
