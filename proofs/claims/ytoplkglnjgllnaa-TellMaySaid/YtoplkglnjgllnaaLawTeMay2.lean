/-
  Layer 18's example.
  Slices of structs: cuts, append of some.
  Layer 18's helper few.
  ref18.May of any reply; that it is layOk, and what Bytes gives (plain).
  The law TellMay.
-/
import Derived.Test.YtoplkglnjgllnaaTellM
import Derived.Test.YtoplkglnjgllnaaRowK
import Derived.Test.YtoplkglnjgllnaaTellT
import Derived.Test.YtoplkglnjgllnaaTeM1
import Derived.Test.YtoplkglnjgllnaaTeM2
namespace Go.Proofs.Ytoplkglnjgllnaa
open Go.RowKit
set_option linter.unusedVariables false
set_option linter.unusedSimpArgs false

theorem okM_107 : ∀ tag code : Int, layOk ⟨107, tag, code, 0, 0, 0, [], qidZ, [], [], qidZ, 0, 0, []⟩ = (inB tag 65535 && inB code 65535) := by
  intro tag code
  have h1 : partsM 107 = [3] := rfl
  have h2 : (107 : Int) ∈ kindsW := by decide
  simp [layOk, layS, lay0, stepT, partT, partOk, h1, h2, sameT, bareT, sameQs]
theorem layB_107 : ∀ tag code : Int, layB ⟨107, tag, code, 0, 0, 0, [], qidZ, [], [], qidZ, 0, 0, []⟩ = le 2 (n16 code) := by
  intro tag code
  have h1 : partsM 107 = [3] := rfl
  simp [layB, layS, lay0, stepT, partB, h1]

set_option maxRecDepth 20000 in
theorem lives18_any (w : World) : Calls Try.prog 14 #[] w fun e w' => e = .returned (.bool true) ∧ Below w.heap.size w w' := by
  go_enter Try.func14, Try.ntmps14
  go_wp2_with fail
  refine (tError_any 1 2 _).mono ?_
  rintro e w1 ⟨rfl, hb1⟩
  go_wp2_with fail
  refine (tWrite_any 107 1 2 0 0 0 [] false 0 0 [] [] false 0 0 0 0 [] none 0 0 none 0 0 w1 RdR.nil RdB.nil (by omega) (by omega) (by simp) (by simp) (by omega)).mono ?_
  rintro e w2 ⟨A, n, c, l, er, hl, her, rfl, hown, hb2⟩
  have hok : layOk ⟨107, 1, 2, 0, 0, 0, [], ⟨false, 0, 0⟩, [], [], ⟨false, 0, 0⟩, 0, 0, []⟩ = true := by
    have := okM_107 1 2
    exact this
  have hbb : layB ⟨107, 1, 2, 0, 0, 0, [], ⟨false, 0, 0⟩, [], [], ⟨false, 0, 0⟩, 0, 0, []⟩ = [2, 0] := by
    have := layB_107 1 2
    exact this
  have he : er = 0 := by rw [her.out, if_pos hok]
  have hls : l = [9, 0, 0, 0, 107, 1, 0, 2, 0] := by rw [hl.out, if_pos hok, hbb]; rfl
  subst he
  subst hls
  have hcv := str_of (c := c) hown.rd (Below.refl _ _)
  have HB := Lib.hid (Up.trans hb1 hb2)
  clear hl her hok hbb hown hb1 hb2
  go_wp2
  go_ret
  exact ⟨rfl, HB.out⟩

theorem flatK_split {k : Nat} {rows : List (List Value)} (hk : 0 < k) (h : ∀ r ∈ rows, r.length = k) : ∀ (j : Nat) (v : Value), rows.flatten[j]? = some v → ∃ i j' r, j = i * k + j' ∧ rows[i]? = some r ∧ r[j']? = some v := by
  induction rows with
  | nil => intro j v hv; simp at hv
  | cons r0 rs ih =>
    intro j v hv
    have h0 := h r0 List.mem_cons_self
    simp only [List.flatten_cons] at hv
    rcases Nat.lt_or_ge j r0.length with hj | hj
    · rw [List.getElem?_append_left hj] at hv
      exact ⟨0, j, r0, by omega, rfl, hv⟩
    · rw [List.getElem?_append_right hj] at hv
      obtain ⟨i, j', r, e, hr, hv'⟩ := ih (fun x hx => h x (List.mem_cons_of_mem _ hx)) _ v hv
      exact ⟨i + 1, j', r, by rw [Nat.add_mul]; omega, by simpa using hr, hv'⟩
theorem RdR.reads {w : World} {B k n : Nat} {A : Option Addr} {rs : List (List Value)} (hk : 0 < k) (h : RdR w B k A n rs) : Reads w B k A n rs.flatten := by
  refine ⟨by rw [flatK_length h.1, h.2.1], fun hn => ?_⟩
  obtain ⟨b, off, hA, hb, hc⟩ := h.2.2 hn
  refine ⟨_, hA, hb, fun j u hu => ?_⟩
  obtain ⟨i, j', r, rfl, hr, hv⟩ := flatK_split hk h.1 j u hu
  rw [add_plain, ← Nat.add_assoc]
  exact hc i j' r u hr hv
theorem RdR.src {P : Program} {w : World} {B k n c : Nat} {A : Option Addr} {rs : List (List Value)} (hk : 0 < k) (h : RdR w B k A n rs) (u e : TypeId) (hu : P.underlying u = some (.slice e)) (h1 : ∀ r ∈ rs, ∀ v ∈ r, v.oneCell' = true) : Src P w u k (.slice A n c) n rs.flatten :=
  Src.ofReads u e hu (h.reads hk) (fun v hv => by
    obtain ⟨r, hr, hv'⟩ := List.mem_flatten.1 hv
    exact h1 r hr v hv')
theorem RdR.firstS {w : World} {B k n : Nat} {A : Option Addr} {rs : List (List Value)} (h : RdR w B k A n rs) {m : Nat} (hm : m ≤ n) : RdR w B k A m (rs.take m) := by
  refine ⟨fun r hr => h.1 r (List.mem_of_mem_take hr), by rw [List.length_take, h.2.1]; omega, fun h0 => ?_⟩
  obtain ⟨b, off, hA, hlt, hc⟩ := h.2.2 (by omega)
  refine ⟨b, off, hA, hlt, fun i j r v hr hv => hc i j r v ?_ hv⟩
  rw [List.getElem?_take] at hr
  split at hr
  · exact hr
  · cases hr
/-- From m on, as the model writes the cut. -/
theorem RdR.cut {w : World} {B k n c : Nat} {A : Option Addr} {rs : List (List Value)} (h : RdR w B k A n rs) {m : Nat} (hm : m ≤ n) (hc : n ≤ c) : RdR w B k (if c = m then A else A.map (·.add (m * k))) (n - m) (rs.drop m) := by
  refine ⟨fun r hr => h.1 r (List.mem_of_mem_drop hr), by rw [List.length_drop, h.2.1], fun h0 => ?_⟩
  obtain ⟨b, off, hA, hlt, hcell⟩ := h.2.2 (by omega)
  subst hA
  rw [if_neg (by omega)]
  refine ⟨b, off + m * k, by rw [Option.map_some, add_plain], hlt, fun i j r v hr hv => ?_⟩
  rw [List.getElem?_drop] at hr
  have := hcell (m + i) j r v hr hv
  rw [show off + m * k + i * k + j = off + (m + i) * k + j by rw [Nat.add_mul]; omega]
  exact this

theorem RdR.drewS {w : World} {B k n : Nat} {A : Option Addr} {rs : List (List Value)} (h : RdR w B k A n rs) : RdR w.drew B k A n rs := h
/-- append of some structs onto a row of the call's own. -/
theorem wpList_appendRs {P : Program} {w : World} {ops : Array Oper} {rest : List Oper} {o : Oper} {a : Act} {Q : Exit → Act → World → Prop} {t e : TypeId} {z : Value} {k bytes : Nat} (el : Elem P t e z k bytes)
    (hgd : o.guard = none) (s x : Operand) (u : TypeId) (ho : o.op = .call { callee := .builtin .append, args := #[s, x], argTypes := #[t, u] })
    (base : Nat) (A0 : Option Addr) (n0 c0 : Nat) (rs : List (List Value)) (hs : a.eval s = .slice A0 n0 c0) (hown : OwR w base e k A0 n0 c0 rs)
    (xv : Value) (hx : a.eval x = xv) (m : Nat) (rs2 : List (List Value)) (hrl : ∀ r ∈ rs2, r.length = k) (hm : rs2.length = m) (hsrc : Src P w u k xv m rs2.flatten)
    (h63 : n0 + m ≤ 1073741824) (hby : bytes ≤ 65536) (hbase : base ≤ w.heap.size)
    (h : ∀ (A : Option Addr) (n c : Nat) (rs' : List (List Value)) (w' : World), Hid (rs' = rs ++ rs2) → Hid (n = n0 + m) → OwR w' base e k A n c rs' → Below base w w' → w.grownBy w' (A0.map (·.block)) →
      wpList P ops Q rest (a.put o.dst (.slice A n c)) w') : wpList P ops Q (o :: rest) a w := by
  refine wpList_append_mine el hgd s x u ho base (.slice A0 n0 c0) n0 rs.flatten hs hown.2.2 xv hx m rs2.flatten hsrc h63 hby hbase ?_
  intro A c w' ho' hg _
  have hrr : (Value.slice A0 n0 c0).ownBlock = A0.map (·.block) := by cases A0 <;> rfl
  rw [hrr] at hg
  refine h A (n0 + m) c (rs ++ rs2) w' rfl rfl ⟨?_, by simp [hown.2.1, hm], by simpa using ho'⟩ ⟨hg.os, hg.tape, hg.output, hg.size, fun k hk => hg.block k (by omega) (fun e => ?_)⟩ hg
  · intro q hq
    rcases List.mem_append.1 hq with hq | hq
    · exact hown.1 q hq
    · exact hrl q hq
  · have := (Own.lt hown.2.2 k (by rw [hrr]; exact e.symm)).1
    omega

def FewPost (w : World) (e : Ending) (w' : World) : Prop :=
  ∃ x Aq nq cq Ad nd cd, e = .returned (.agg (tellC x Aq nq cq Ad nd cd).toArray) ∧ TellOk w' w'.heap.size x Aq nq cq Ad nd cd ∧ TellRd w' x Aq nq cq Ad nd cd ∧ Below w.heap.size w w'

set_option maxRecDepth 100000 in
set_option maxHeartbeats 8000000 in
theorem few18_any (kind tag code msize iounit count : Int) (name : List UInt8) (qdir : Bool) (qver qpath : Int) (qids : List QidV) (data : List UInt8) (sdir : Bool) (sver spath smode ssize : Int) (sname : List UInt8) (Aq : Option Addr) (nq cq : Nat) (Ad : Option Addr) (nd cd : Nat) (w : World)
    (hok : TellOk w w.heap.size ⟨kind, tag, code, msize, iounit, count, name, ⟨qdir, qver, qpath⟩, qids, data, ⟨sdir, sver, spath⟩, smode, ssize, sname⟩ Aq nq cq Ad nd cd) :
    Calls Try.prog 15 #[.agg #[.int .i64 kind, .int .i64 tag, .int .i64 code, .int .i64 msize, .int .i64 iounit, .int .i64 count, .string (st name), .bool qdir, .int .i64 qver, .int .i64 qpath, .slice Aq nq cq, .slice Ad nd cd, .bool sdir, .int .i64 sver, .int .i64 spath, .int .i64 smode, .int .i64 ssize, .string (st sname)]] w (FewPost w) := by
  obtain ⟨k, hif, hkn, hk10⟩ : ∃ k : Nat, (if (10 : Int) < nq then (10 : Int) else nq) = (k : Int) ∧ k ≤ nq ∧ k ≤ 10 := by
    by_cases h : 10 < nq
    · exact ⟨10, if_pos (by omega), by omega, by omega⟩
    · exact ⟨nq, if_neg (by omega), by omega, by omega⟩
  obtain ⟨nm, hnm⟩ : ∃ v, Hid (v = name.take 300) := ⟨_, Lib.hid rfl⟩
  obtain ⟨sm, hsm⟩ : ∃ v, Hid (v = sname.take 300) := ⟨_, Lib.hid rfl⟩
  have HOK := Lib.hid hok
  have hnc := hok.nq_le
  have hcm := hok.cq_le
  unfold maxLen at hcm
  clear hok
  have hA0 := Blk.new w 29 [.int .i64 kind, .int .i64 tag, .int .i64 code, .int .i64 msize, .int .i64 iounit, .int .i64 count, .string (st name), .bool qdir, .int .i64 qver, .int .i64 qpath, .slice Aq nq cq, .slice Ad nd cd, .bool sdir, .int .i64 sver, .int .i64 spath, .int .i64 smode, .int .i64 ssize, .string (st sname)]
  have hZ0 := Blk.new (w.alloc (.cells #[.int .i64 kind, .int .i64 tag, .int .i64 code, .int .i64 msize, .int .i64 iounit, .int .i64 count, .string (st name), .bool qdir, .int .i64 qver, .int .i64 qpath, .slice Aq nq cq, .slice Ad nd cd, .bool sdir, .int .i64 sver, .int .i64 spath, .int .i64 smode, .int .i64 ssize, .string (st sname)] 29)) 29 [.int .i64 0, .int .i64 0, .int .i64 0, .int .i64 0, .int .i64 0, .int .i64 0, .string ByteArray.empty, .bool false, .int .i64 0, .int .i64 0, .slice none 0 0, .slice none 0 0, .bool false, .int .i64 0, .int .i64 0, .int .i64 0, .int .i64 0, .string ByteArray.empty]
  obtain ⟨W2, hW2⟩ : ∃ x, x = (w.alloc (.cells #[.int .i64 kind, .int .i64 tag, .int .i64 code, .int .i64 msize, .int .i64 iounit, .int .i64 count, .string (st name), .bool qdir, .int .i64 qver, .int .i64 qpath, .slice Aq nq cq, .slice Ad nd cd, .bool sdir, .int .i64 sver, .int .i64 spath, .int .i64 smode, .int .i64 ssize, .string (st sname)] 29)).alloc (.cells #[.int .i64 0, .int .i64 0, .int .i64 0, .int .i64 0, .int .i64 0, .int .i64 0, .string ByteArray.empty, .bool false, .int .i64 0, .int .i64 0, .slice none 0 0, .slice none 0 0, .bool false, .int .i64 0, .int .i64 0, .int .i64 0, .int .i64 0, .string ByteArray.empty] 29) := ⟨_, rfl⟩
  have hA2 : Blk W2 w.heap.size 29 [.int .i64 kind, .int .i64 tag, .int .i64 code, .int .i64 msize, .int .i64 iounit, .int .i64 count, .string (st name), .bool qdir, .int .i64 qver, .int .i64 qpath, .slice Aq nq cq, .slice Ad nd cd, .bool sdir, .int .i64 sver, .int .i64 spath, .int .i64 smode, .int .i64 ssize, .string (st sname)] := by rw [hW2]; exact hA0.alloc _
  have hZ2 : Blk W2 (w.heap.size + 1) 29 [.int .i64 0, .int .i64 0, .int .i64 0, .int .i64 0, .int .i64 0, .int .i64 0, .string ByteArray.empty, .bool false, .int .i64 0, .int .i64 0, .slice none 0 0, .slice none 0 0, .bool false, .int .i64 0, .int .i64 0, .int .i64 0, .int .i64 0, .string ByteArray.empty] := by rw [hW2]; simpa using hZ0
  have hb2 : Below w.heap.size w W2 := by rw [hW2]; exact ((Below.refl _ _).alloc (Nat.le_refl _) _).alloc (by simp) _
  have hW3 : W2 = (w.alloc (.cells #[.int .i64 kind, .int .i64 tag, .int .i64 code, .int .i64 msize, .int .i64 iounit, .int .i64 count, .string (st name), .bool qdir, .int .i64 qver, .int .i64 qpath, .slice Aq nq cq, .slice Ad nd cd, .bool sdir, .int .i64 sver, .int .i64 spath, .int .i64 smode, .int .i64 ssize, .string (st sname)] 29)).alloc (.cells #[.int .i64 0, .int .i64 0, .int .i64 0, .int .i64 0, .int .i64 0, .int .i64 0, .string ⟨#[]⟩, .bool false, .int .i64 0, .int .i64 0, .slice none 0 0, .slice none 0 0, .bool false, .int .i64 0, .int .i64 0, .int .i64 0, .int .i64 0, .string ⟨#[]⟩] 29) := hW2
  obtain ⟨gZ, hgZ⟩ : ∃ x, x = w.heap.size + 1 := ⟨_, rfl⟩
  obtain ⟨gA, hgA⟩ : ∃ x, x = w.heap.size := ⟨_, rfl⟩
  rw [← hgZ] at hZ2
  rw [← hgA] at hA2
  have gAZ : gA ≠ gZ := by omega
  have gA_le : w.heap.size ≤ gA := by omega
  have gZ_le : w.heap.size ≤ gZ := by omega
  have HA := Lib.hid hA2
  have HZ := Lib.hid hZ2
  have HB := Lib.hid hb2
  have GZ := Lib.hid hgZ
  have GA := Lib.hid hgA
  clear hA0 hZ0 hA2 hZ2 hb2 hW2 hgZ hgA
  go_enter Try.func15, Try.ntmps15
  go_upto_region 1 with fail
  rw [← hW3, ← GZ.out, ← GA.out]
  clear hW3
  have ka := HA.out.cell 6 _ rfl
  go_wp2_with fail
  refine (show Calls Try.prog 29 #[.string (st name), .int .i64 300] W2 fun e w' => e = .returned (.string (st nm)) ∧ W2 = w' by rw [hnm.out]; exact tShort_any name 300 _ HOK.out.name (by omega)).mono ?_
  rintro e w' ⟨rfl, rfl⟩
  have ku := HA.out.cell 6 _ rfl
  have kf := HA.out.free 6
  have hA' := HA.out.set 6 (.string (st nm))
  have hZ' := HZ.out.other (p := ⟨gA, 6, none⟩) gAZ (.string (st nm))
  have hB' := HB.out.setCell (p := ⟨gA, 6, none⟩) (by show w.heap.size ≤ gA; omega) (.string (st nm))
  clear HA HZ HB
  go_upto_region 2 with fail
  generalize W2.setCell ⟨gA, 6, none⟩ (.string (st nm)) = wa at hA' hZ' hB' ⊢
  have HA := Lib.hid hA'
  have HZ := Lib.hid hZ'
  have HB := Lib.hid hB'
  clear hA' hZ' hB' ku kf ka
  have ka := HA.out.cell 17 _ rfl
  go_wp2_with fail
  refine (show Calls Try.prog 29 #[.string (st sname), .int .i64 300] wa fun e w' => e = .returned (.string (st sm)) ∧ wa = w' by rw [hsm.out]; exact tShort_any sname 300 _ HOK.out.sname (by omega)).mono ?_
  rintro e w' ⟨rfl, rfl⟩
  have ku := HA.out.cell 17 _ rfl
  have kf := HA.out.free 17
  have hA' := HA.out.set 17 (.string (st sm))
  have hZ' := HZ.out.other (p := ⟨gA, 17, none⟩) gAZ (.string (st sm))
  have hB' := HB.out.setCell (p := ⟨gA, 17, none⟩) (by show w.heap.size ≤ gA; omega) (.string (st sm))
  clear HA HZ HB
  go_upto_region 3 with fail
  generalize wa.setCell ⟨gA, 17, none⟩ (.string (st sm)) = wb at hA' hZ' hB' ⊢
  have HA := Lib.hid hA'
  have HZ := Lib.hid hZ'
  have HB := Lib.hid hB'
  clear hA' hZ' hB' ku kf ka
  have ka := HA.out.cell 10 _ rfl
  have hrq := (HOK.out.qids.below HB.out).more HB.out.size
  have hfk := hrq.firstS hkn
  have Hsrc := Lib.hid (hfk.src (P := Try.prog) (c := cq) (by omega) 24 23 Try.underlying24 (fun r hr => by
    obtain ⟨q, _, rfl⟩ := List.mem_map.1 (List.mem_of_mem_take hr)
    simp [qidC, Value.oneCell']))
  have HFK := Lib.hid hfk
  clear hrq hfk
  have hkc : k ≤ cq := Nat.le_trans hkn hnc
  all_goals
    go_upto_region 5 with (at_builtin; go_must (refine wpList_appendRs qidsElemS rfl (.tmp 14) (.tmp 21) 24 rfl wb.heap.size none 0 0 [] rfl (OwR.nil _ _ _ _) _ rfl _ _ HFK.out.1 HFK.out.2.1 Hsrc.out (by omega) (by omega) (Nat.le_refl _) ?_); intro A3 n3 c3 rs3 w3 hrs3 hn3 hown3 hb3 hg3; have hA3 := HA.out.up hb3; have ku := hA3.cell 10 _ rfl; have kf := hA3.free 10; simp only [Act.put, List.setIfInBounds_toArray, List.set_cons_succ, List.set_cons_zero])
    have hA4 := hA3.set 10 (.slice A3 n3 c3)
    have hgAl : gA < wb.heap.size := HA.out.lt
    have hk4 : Keeps (Is gA) w3 (w3.setCell ⟨gA, 10, none⟩ (.slice A3 n3 c3)) := (Keeps.refl (Is gA) _).setCell (p := ⟨gA, 10, none⟩) (.inl rfl) _
    have hZ4 := (HZ.out.up hb3).other (p := ⟨gA, 10, none⟩) gAZ (.slice A3 n3 c3)
    have hO4 := OwR.keeps hown3 hk4 (fun k hk e => by have e' : k = gA := e; omega)
    have hB4 := (HB.out.trans (hb3.mono HB.out.size)).trans (hk4.is gA_le (by have := hA3.lt; omega))
    clear hown3 hb3 hg3 hA3 hk4 HA HZ HB ka
    generalize w3.setCell ⟨gA, 10, none⟩ (.slice A3 n3 c3) = w4 at hA4 hZ4 hO4 hB4 ⊢
    have HA := Lib.hid hA4
    have HZ := Lib.hid hZ4
    have HB := Lib.hid hB4
    have HO := Lib.hid hO4
    have ka := hA4.cell 11 _ rfl
    clear hA4 hZ4 hO4 hB4 ku kf
    go_wp2_with fail
    refine (few_any Ad nd cd data 40 _ ((HOK.out.data.below HB.out).more HB.out.size) HOK.out.nd_le HOK.out.cd_le (by omega)).mono ?_
    rintro e w5 ⟨Af, nf, cf, lf, hlf, rfl, hownf, hbf⟩
    have hA5 := HA.out.up hbf
    have ku := hA5.cell 11 _ rfl
    have kf := hA5.free 11
    have hA6 := hA5.set 11 (.slice Af nf cf)
    have hgA4 : gA < w4.heap.size := HA.out.lt
    have hgZ4 : gZ < w4.heap.size := HZ.out.lt
    have hk6 : Keeps (Is gA) w5 (w5.setCell ⟨gA, 11, none⟩ (.slice Af nf cf)) := (Keeps.refl (Is gA) _).setCell (p := ⟨gA, 11, none⟩) (.inl rfl) _
    have hZ6 := (HZ.out.up hbf).other (p := ⟨gA, 11, none⟩) gAZ (.slice Af nf cf)
    have hO6 := OwR.keeps (HO.out.up hbf) hk6 (fun k hk e => by have e' : k = gA := e; omega)
    have hF6 : OwB (w5.setCell ⟨gA, 11, none⟩ (.slice Af nf cf)) w4.heap.size Af nf cf lf := OwB.keeps hownf hk6 (fun k hk e => by have e' : k = gA := e; omega)
    have hB6 := (HB.out.trans (hbf.mono HB.out.size)).trans (hk6.is gA_le (by have := hA5.lt; omega))
    clear hownf hbf hA5 hk6 HA HZ HB HO ka
    go_upto_region 6 with fail
    generalize w5.setCell ⟨gA, 11, none⟩ (.slice Af nf cf) = w6 at hA6 hZ6 hO6 hF6 hB6 ⊢
    have HZ := Lib.hid hZ6
    have HB := Lib.hid hB6
    have HO := Lib.hid hO6
    have HF := Lib.hid hF6
    clear hZ6 hO6 hF6 hB6 ku kf
    have hXf := hA6
    have hF := HZ.out.setRow [.int .i64 kind, .int .i64 tag, .int .i64 code, .int .i64 msize, .int .i64 iounit, .int .i64 count, .string (st nm), .bool qdir, .int .i64 qver, .int .i64 qpath, .slice A3 n3 c3, .slice Af nf cf, .bool sdir, .int .i64 sver, .int .i64 spath, .int .i64 smode, .int .i64 ssize, .string (st sm)]
    have hKz := keeps_setRow w6 (g := gZ) #[.int .i64 kind, .int .i64 tag, .int .i64 code, .int .i64 msize, .int .i64 iounit, .int .i64 count, .string (st nm), .bool qdir, .int .i64 qver, .int .i64 qpath, .slice A3 n3 c3, .slice Af nf cf, .bool sdir, .int .i64 sver, .int .i64 spath, .int .i64 smode, .int .i64 ssize, .string (st sm)]
    have hgZb : wb.heap.size ≤ w4.heap.size ∨ True := .inr trivial
    have hO7 := OwR.farG HO.out HZ.out (by decide) hKz
    have hF7 := OwB.farG HF.out HZ.out (by decide) hKz
    have hlq := hO7.len
    have hld := hF7.len
    have hlf' : lf.length ≤ 40 := by rw [hlf.out]; simp; omega
    have hb7 := below_setRow HB.out gZ_le #[.int .i64 kind, .int .i64 tag, .int .i64 code, .int .i64 msize, .int .i64 iounit, .int .i64 count, .string (st nm), .bool qdir, .int .i64 qver, .int .i64 qpath, .slice A3 n3 c3, .slice Af nf cf, .bool sdir, .int .i64 sver, .int .i64 spath, .int .i64 smode, .int .i64 ssize, .string (st sm)]
    have hrs : rs3 = (qids.take n3).map qidC := by
      have h1 := hn3.out
      rw [hrs3.out, List.nil_append, List.map_take]
      congr 1
      omega
    subst hrs
    have hn10 : n3 ≤ 10 := by have := hn3.out; omega
    have hfin : FewPost w (.returned (.agg #[.int .i64 kind, .int .i64 tag, .int .i64 code, .int .i64 msize, .int .i64 iounit, .int .i64 count, .string (st nm), .bool qdir, .int .i64 qver, .int .i64 qpath, .slice A3 n3 c3, .slice Af nf cf, .bool sdir, .int .i64 sver, .int .i64 spath, .int .i64 smode, .int .i64 ssize, .string (st sm)])) (w6.setRow gZ #[.int .i64 kind, .int .i64 tag, .int .i64 code, .int .i64 msize, .int .i64 iounit, .int .i64 count, .string (st nm), .bool qdir, .int .i64 qver, .int .i64 qpath, .slice A3 n3 c3, .slice Af nf cf, .bool sdir, .int .i64 sver, .int .i64 spath, .int .i64 smode, .int .i64 ssize, .string (st sm)]) := by
      refine ⟨⟨kind, tag, code, msize, iounit, count, nm, ⟨qdir, qver, qpath⟩, qids.take n3, lf, ⟨sdir, sver, spath⟩, smode, ssize, sm⟩, A3, n3, c3, Af, nf, cf, rfl, ?_, ?_, hb7⟩
      · exact { bkind := HOK.out.bkind, btag := HOK.out.btag, bcode := HOK.out.bcode, bmsize := HOK.out.bmsize, biounit := HOK.out.biounit, bcount := HOK.out.bcount, bqid := HOK.out.bqid, bsqid := HOK.out.bsqid, bsmode := HOK.out.bsmode, bssize := HOK.out.bssize, name := (by show nm.length ≤ _; rw [hnm.out]; simp; omega), sname := (by show sm.length ≤ _; rw [hsm.out]; simp; omega), qids := hO7.rd, each := fun q hq => HOK.out.each q (List.mem_of_mem_take hq), nq_le := hO7.cap.1, cq_le := hO7.cap.2, data := hF7.rd, nd_le := hF7.cap.1, cd_le := hF7.cap.2 }
      · exact ⟨hO7.rd, hF7.rd, by omega, by omega, by show nm.length ≤ _; rw [hnm.out]; simp; omega, by show sm.length ≤ _; rw [hsm.out]; simp; omega⟩
    have HFIN := Lib.hid hfin
    clear hfin hO7 hF7 hlq hld hb7 hKz hlf'
    go_wp2_with first
      | (refine wpList_loadBlk rfl (.tmp 1) rfl rfl (by kernel_rfl) tellT_agg hXf ?_; simp only [Act.put, List.setIfInBounds_toArray, List.set_cons_succ, List.set_cons_zero])
      | (refine wpList_storeBlk rfl (.tmp 2) (.tmp 28) rfl rfl [.int .i64 kind, .int .i64 tag, .int .i64 code, .int .i64 msize, .int .i64 iounit, .int .i64 count, .string (st nm), .bool qdir, .int .i64 qver, .int .i64 qpath, .slice A3 n3 c3, .slice Af nf cf, .bool sdir, .int .i64 sver, .int .i64 spath, .int .i64 smode, .int .i64 ssize, .string (st sm)] rfl rfl (by kernel_rfl) HZ.out rfl (by simp [Value.oneCell']) ?_)
    exact bodyPost_ret (v := .agg #[.int .i64 kind, .int .i64 tag, .int .i64 code, .int .i64 msize, .int .i64 iounit, .int .i64 count, .string (st nm), .bool qdir, .int .i64 qver, .int .i64 qpath, .slice A3 n3 c3, .slice Af nf cf, .bool sdir, .int .i64 sver, .int .i64 spath, .int .i64 smode, .int .i64 ssize, .string (st sm)]) (results_cellBlk Try.results15 rfl hF (by kernel_rfl) tellT_agg) rfl HFIN.out
theorem few18_ok (t : TellV) (Aq : Option Addr) (nq cq : Nat) (Ad : Option Addr) (nd cd : Nat) (w : World) (h : TellOk w w.heap.size t Aq nq cq Ad nd cd) :
    Calls Try.prog 15 #[.agg (tellC t Aq nq cq Ad nd cd).toArray] w (FewPost w) :=
  few18_any t.kind t.tag t.code t.msize t.iounit t.count t.name t.qid.dir t.qid.ver t.qid.path t.qids t.data t.sqid.dir t.sqid.ver t.sqid.path t.smode t.ssize t.sname Aq nq cq Ad nd cd w h

/-- May a reply be, by the document. -/
def mayT (t : TellV) : Bool :=
  sameT (ownT t) t && !(fieldsM t.kind).isEmpty && inB t.tag 65535 && inB t.code 65535 && decide (t.qids.length ≤ 8) && decide (t.data.length ≤ 1024) && decide (t.name.length ≤ 255) && decide (t.sname.length ≤ 255) && t.qids.all qidOk && qidOk t.qid && qidOk t.sqid && inB t.msize 4294967295 && inB t.iounit 4294967295 && inB t.count 4294967295 && inB t.smode 4294967295 && inB t.ssize 4611686018427387904

theorem refMay_any (t : TellV) (Aq : Option Addr) (nq cq : Nat) (Ad : Option Addr) (nd cd : Nat) (w : World) (hrd : TellRd w t Aq nq cq Ad nd cd) :
    Calls Try.prog 16 #[.agg (tellC t Aq nq cq Ad nd cd).toArray] w fun e w' => e = .returned (.bool (mayT t)) ∧ Below w.heap.size w w' := by
  obtain ⟨kind, tag, code, msize, iounit, count, name, ⟨qdir, qver, qpath⟩, qids, data, ⟨sdir, sver, spath⟩, smode, ssize, sname⟩ := t
  have hlq : qids.length = nq := by have := hrd.q.len; simpa using this
  have hld : data.length = nd := hrd.d.len
  obtain ⟨b, hb⟩ : ∃ b, b = mayT ⟨kind, tag, code, msize, iounit, count, name, ⟨qdir, qver, qpath⟩, qids, data, ⟨sdir, sver, spath⟩, smode, ssize, sname⟩ := ⟨_, rfl⟩
  rw [← hb]
  unfold mayT at hb
  simp only at hb
  rcases ha0 : sameT (ownT ⟨kind, tag, code, msize, iounit, count, name, ⟨qdir, qver, qpath⟩, qids, data, ⟨sdir, sver, spath⟩, smode, ssize, sname⟩) ⟨kind, tag, code, msize, iounit, count, name, ⟨qdir, qver, qpath⟩, qids, data, ⟨sdir, sver, spath⟩, smode, ssize, sname⟩ with _ | _
  · rw [ha0] at hb
    simp only [Bool.false_and] at hb
    subst hb
    exact rmay_c0 kind tag code msize iounit count name qdir qver qpath qids data sdir sver spath smode ssize sname Aq nq cq Ad nd cd w hrd ha0
  rw [ha0] at hb
  by_cases ha1 : fieldsM kind = []
  · rw [ha1] at hb
    simp only [List.isEmpty_nil, Bool.not_true, Bool.and_false, Bool.false_and] at hb
    subst hb
    exact rmay_c1 kind tag code msize iounit count name qdir qver qpath qids data sdir sver spath smode ssize sname Aq nq cq Ad nd cd w hrd ha0 ha1
  have he1 : (fieldsM kind).isEmpty = false := by simpa using ha1
  rw [he1] at hb
  by_cases ha2 : tag < 0
  · have hf : inB tag 65535 = false := by rw [← Bool.not_eq_true, inB_def]; omega
    rw [hf] at hb
    simp only [Bool.and_false, Bool.false_and] at hb
    subst hb
    exact rmay_c2 kind tag code msize iounit count name qdir qver qpath qids data sdir sver spath smode ssize sname Aq nq cq Ad nd cd w hrd ha0 ha1 ha2
  by_cases ha3 : 65535 < tag
  · have hf : inB tag 65535 = false := by rw [← Bool.not_eq_true, inB_def]; omega
    rw [hf] at hb
    simp only [Bool.and_false, Bool.false_and] at hb
    subst hb
    exact rmay_c3 kind tag code msize iounit count name qdir qver qpath qids data sdir sver spath smode ssize sname Aq nq cq Ad nd cd w hrd ha0 ha1 ha2 ha3
  have ht3 : inB tag 65535 = true := by rw [inB_def]; omega
  rw [ht3] at hb
  by_cases ha4 : code < 0
  · have hf : inB code 65535 = false := by rw [← Bool.not_eq_true, inB_def]; omega
    rw [hf] at hb
    simp only [Bool.and_false, Bool.false_and] at hb
    subst hb
    exact rmay_c4 kind tag code msize iounit count name qdir qver qpath qids data sdir sver spath smode ssize sname Aq nq cq Ad nd cd w hrd ha0 ha1 ha2 ha3 ha4
  by_cases ha5 : 65535 < code
  · have hf : inB code 65535 = false := by rw [← Bool.not_eq_true, inB_def]; omega
    rw [hf] at hb
    simp only [Bool.and_false, Bool.false_and] at hb
    subst hb
    exact rmay_c5 kind tag code msize iounit count name qdir qver qpath qids data sdir sver spath smode ssize sname Aq nq cq Ad nd cd w hrd ha0 ha1 ha2 ha3 ha4 ha5
  have ht5 : inB code 65535 = true := by rw [inB_def]; omega
  rw [ht5] at hb
  by_cases ha6 : (8 : Int) < nq
  · have hf : decide (qids.length ≤ 8) = false := decide_eq_false (by omega)
    rw [hf] at hb
    simp only [Bool.and_false, Bool.false_and] at hb
    subst hb
    exact rmay_c6 kind tag code msize iounit count name qdir qver qpath qids data sdir sver spath smode ssize sname Aq nq cq Ad nd cd w hrd ha0 ha1 ha2 ha3 ha4 ha5 ha6
  have ht6 : decide (qids.length ≤ 8) = true := decide_eq_true (by omega)
  rw [ht6] at hb
  by_cases ha7 : (1024 : Int) < nd
  · have hf : decide (data.length ≤ 1024) = false := decide_eq_false (by omega)
    rw [hf] at hb
    simp only [Bool.and_false, Bool.false_and] at hb
    subst hb
    exact rmay_c7 kind tag code msize iounit count name qdir qver qpath qids data sdir sver spath smode ssize sname Aq nq cq Ad nd cd w hrd ha0 ha1 ha2 ha3 ha4 ha5 ha6 ha7
  have ht7 : decide (data.length ≤ 1024) = true := decide_eq_true (by omega)
  rw [ht7] at hb
  by_cases ha8 : (255 : Int) < name.length
  · have hf : decide (name.length ≤ 255) = false := decide_eq_false (by omega)
    rw [hf] at hb
    simp only [Bool.and_false, Bool.false_and] at hb
    subst hb
    exact rmay_c8 kind tag code msize iounit count name qdir qver qpath qids data sdir sver spath smode ssize sname Aq nq cq Ad nd cd w hrd ha0 ha1 ha2 ha3 ha4 ha5 ha6 ha7 ha8
  have ht8 : decide (name.length ≤ 255) = true := decide_eq_true (by omega)
  rw [ht8] at hb
  by_cases ha9 : (255 : Int) < sname.length
  · have hf : decide (sname.length ≤ 255) = false := decide_eq_false (by omega)
    rw [hf] at hb
    simp only [Bool.and_false, Bool.false_and] at hb
    subst hb
    exact rmay_c9 kind tag code msize iounit count name qdir qver qpath qids data sdir sver spath smode ssize sname Aq nq cq Ad nd cd w hrd ha0 ha1 ha2 ha3 ha4 ha5 ha6 ha7 ha8 ha9
  have ht9 : decide (sname.length ≤ 255) = true := decide_eq_true (by omega)
  rw [ht9] at hb
  rcases hall : qids.all qidOk with _ | _
  · rw [hall] at hb
    simp only [Bool.and_false, Bool.false_and] at hb
    subst hb
    exact rmay_l kind tag code msize iounit count name qdir qver qpath qids data sdir sver spath smode ssize sname Aq nq cq Ad nd cd w hrd ha0 ha1 ha2 ha3 ha4 ha5 ha6 ha7 ha8 ha9 hall
  rw [hall] at hb
  rcases hfq : qidOk ⟨qdir, qver, qpath⟩ with _ | _
  · rw [hfq] at hb
    simp only [Bool.and_false, Bool.false_and] at hb
    subst hb
    exact rmay_f0 kind tag code msize iounit count name qdir qver qpath qids data sdir sver spath smode ssize sname Aq nq cq Ad nd cd w hrd ha0 ha1 ha2 ha3 ha4 ha5 ha6 ha7 ha8 ha9 hall hfq
  rw [hfq] at hb
  rcases hfs : qidOk ⟨sdir, sver, spath⟩ with _ | _
  · rw [hfs] at hb
    simp only [Bool.and_false, Bool.false_and] at hb
    subst hb
    exact rmay_f1 kind tag code msize iounit count name qdir qver qpath qids data sdir sver spath smode ssize sname Aq nq cq Ad nd cd w hrd ha0 ha1 ha2 ha3 ha4 ha5 ha6 ha7 ha8 ha9 hall hfq hfs
  rw [hfs] at hb
  rcases hf3 : inB msize 4294967295 with _ | _
  · rw [hf3] at hb
    simp only [Bool.and_false, Bool.false_and] at hb
    subst hb
    exact rmay_f2 kind tag code msize iounit count name qdir qver qpath qids data sdir sver spath smode ssize sname Aq nq cq Ad nd cd w hrd ha0 ha1 ha2 ha3 ha4 ha5 ha6 ha7 ha8 ha9 hall hfq hfs hf3
  rw [hf3] at hb
  rcases hf4 : inB iounit 4294967295 with _ | _
  · rw [hf4] at hb
    simp only [Bool.and_false, Bool.false_and] at hb
    subst hb
    exact rmay_f3 kind tag code msize iounit count name qdir qver qpath qids data sdir sver spath smode ssize sname Aq nq cq Ad nd cd w hrd ha0 ha1 ha2 ha3 ha4 ha5 ha6 ha7 ha8 ha9 hall hfq hfs hf3 hf4
  rw [hf4] at hb
  rcases hf5 : inB count 4294967295 with _ | _
  · rw [hf5] at hb
    simp only [Bool.and_false, Bool.false_and] at hb
    subst hb
    exact rmay_f4 kind tag code msize iounit count name qdir qver qpath qids data sdir sver spath smode ssize sname Aq nq cq Ad nd cd w hrd ha0 ha1 ha2 ha3 ha4 ha5 ha6 ha7 ha8 ha9 hall hfq hfs hf3 hf4 hf5
  rw [hf5] at hb
  rcases hf6 : inB smode 4294967295 with _ | _
  · rw [hf6] at hb
    simp only [Bool.and_false, Bool.false_and] at hb
    subst hb
    exact rmay_f5 kind tag code msize iounit count name qdir qver qpath qids data sdir sver spath smode ssize sname Aq nq cq Ad nd cd w hrd ha0 ha1 ha2 ha3 ha4 ha5 ha6 ha7 ha8 ha9 hall hfq hfs hf3 hf4 hf5 hf6
  rw [hf6] at hb
  rcases hf7 : inB ssize 4611686018427387904 with _ | _
  · rw [hf7] at hb
    simp only [Bool.and_false, Bool.false_and] at hb
    subst hb
    exact rmay_f6 kind tag code msize iounit count name qdir qver qpath qids data sdir sver spath smode ssize sname Aq nq cq Ad nd cd w hrd ha0 ha1 ha2 ha3 ha4 ha5 ha6 ha7 ha8 ha9 hall hfq hfs hf3 hf4 hf5 hf6 hf7
  rw [hf7] at hb
  simp only [Bool.not_false, Bool.and_true, Bool.true_and] at hb
  subst hb
  exact rmay_t kind tag code msize iounit count name qdir qver qpath qids data sdir sver spath smode ssize sname Aq nq cq Ad nd cd w hrd ha0 ha1 ha2 ha3 ha4 ha5 ha6 ha7 ha8 ha9 hall hfq hfs hf3 hf4 hf5 hf6 hf7

/-- A reply whose numbers, texts and lists are in their bounds. -/
structure InT2 (u : TellV) : Prop where
  tag : inB u.tag 65535 = true
  code : inB u.code 65535 = true
  msize : inB u.msize 4294967295 = true
  iounit : inB u.iounit 4294967295 = true
  count : inB u.count 4294967295 = true
  name : u.name.length ≤ 255
  qid : qidOk u.qid = true
  qids : qidsOk u.qids = true
  data : u.data.length ≤ 1024
  stat : statOk u.sqid u.smode u.ssize u.sname = true
theorem own2_ok_101 (tag code msize iounit count : Int) (name : List UInt8) (qid : QidV) (qids : List QidV) (data : List UInt8) (sqid : QidV) (smode ssize : Int) (sname : List UInt8) (h : InT2 ⟨101, tag, code, msize, iounit, count, name, qid, qids, data, sqid, smode, ssize, sname⟩) : layOk (ownT ⟨101, tag, code, msize, iounit, count, name, qid, qids, data, sqid, smode, ssize, sname⟩) = true := by
  obtain ⟨h1, h2, h3, h4, h5, h6, h7, h8, h9, h10⟩ := h
  simp only at h1 h2 h3 h4 h5 h6 h7 h8 h9 h10
  have hp : partsM 101 = [0, 4] := rfl
  have hk : (101 : Int) ∈ kindsW := by decide
  have f101 : hasM 101 101 = false := rfl
  have f122 : hasM 101 122 = true := rfl
  have f105 : hasM 101 105 = false := rfl
  have f99 : hasM 101 99 = false := rfl
  have f113 : hasM 101 113 = false := rfl
  have f108 : hasM 101 108 = false := rfl
  have f100 : hasM 101 100 = false := rfl
  have f115 : hasM 101 115 = false := rfl
  simp [ownT, layOk, layS, lay0, stepT, partT, partOk, hp, hk, f101, f122, f105, f99, f113, f108, f100, f115, h1, h2, h3, h4, h5, h6, h7, h8, h9, h10, sameT, bareT, sameQs, qidZ]
theorem own2_ok_105 (tag code msize iounit count : Int) (name : List UInt8) (qid : QidV) (qids : List QidV) (data : List UInt8) (sqid : QidV) (smode ssize : Int) (sname : List UInt8) (h : InT2 ⟨105, tag, code, msize, iounit, count, name, qid, qids, data, sqid, smode, ssize, sname⟩) : layOk (ownT ⟨105, tag, code, msize, iounit, count, name, qid, qids, data, sqid, smode, ssize, sname⟩) = true := by
  obtain ⟨h1, h2, h3, h4, h5, h6, h7, h8, h9, h10⟩ := h
  simp only at h1 h2 h3 h4 h5 h6 h7 h8 h9 h10
  have hp : partsM 105 = [5] := rfl
  have hk : (105 : Int) ∈ kindsW := by decide
  have f101 : hasM 105 101 = false := rfl
  have f122 : hasM 105 122 = false := rfl
  have f105 : hasM 105 105 = false := rfl
  have f99 : hasM 105 99 = false := rfl
  have f113 : hasM 105 113 = true := rfl
  have f108 : hasM 105 108 = false := rfl
  have f100 : hasM 105 100 = false := rfl
  have f115 : hasM 105 115 = false := rfl
  simp [ownT, layOk, layS, lay0, stepT, partT, partOk, hp, hk, f101, f122, f105, f99, f113, f108, f100, f115, h1, h2, h3, h4, h5, h6, h7, h8, h9, h10, sameT, bareT, sameQs, qidZ]
theorem own2_ok_107 (tag code msize iounit count : Int) (name : List UInt8) (qid : QidV) (qids : List QidV) (data : List UInt8) (sqid : QidV) (smode ssize : Int) (sname : List UInt8) (h : InT2 ⟨107, tag, code, msize, iounit, count, name, qid, qids, data, sqid, smode, ssize, sname⟩) : layOk (ownT ⟨107, tag, code, msize, iounit, count, name, qid, qids, data, sqid, smode, ssize, sname⟩) = true := by
  obtain ⟨h1, h2, h3, h4, h5, h6, h7, h8, h9, h10⟩ := h
  simp only at h1 h2 h3 h4 h5 h6 h7 h8 h9 h10
  have hp : partsM 107 = [3] := rfl
  have hk : (107 : Int) ∈ kindsW := by decide
  have f101 : hasM 107 101 = true := rfl
  have f122 : hasM 107 122 = false := rfl
  have f105 : hasM 107 105 = false := rfl
  have f99 : hasM 107 99 = false := rfl
  have f113 : hasM 107 113 = false := rfl
  have f108 : hasM 107 108 = false := rfl
  have f100 : hasM 107 100 = false := rfl
  have f115 : hasM 107 115 = false := rfl
  simp [ownT, layOk, layS, lay0, stepT, partT, partOk, hp, hk, f101, f122, f105, f99, f113, f108, f100, f115, h1, h2, h3, h4, h5, h6, h7, h8, h9, h10, sameT, bareT, sameQs, qidZ]
theorem own2_ok_109 (tag code msize iounit count : Int) (name : List UInt8) (qid : QidV) (qids : List QidV) (data : List UInt8) (sqid : QidV) (smode ssize : Int) (sname : List UInt8) (h : InT2 ⟨109, tag, code, msize, iounit, count, name, qid, qids, data, sqid, smode, ssize, sname⟩) : layOk (ownT ⟨109, tag, code, msize, iounit, count, name, qid, qids, data, sqid, smode, ssize, sname⟩) = true := by
  obtain ⟨h1, h2, h3, h4, h5, h6, h7, h8, h9, h10⟩ := h
  simp only at h1 h2 h3 h4 h5 h6 h7 h8 h9 h10
  have hp : partsM 109 = [] := rfl
  have hk : (109 : Int) ∈ kindsW := by decide
  have f101 : hasM 109 101 = false := rfl
  have f122 : hasM 109 122 = false := rfl
  have f105 : hasM 109 105 = false := rfl
  have f99 : hasM 109 99 = false := rfl
  have f113 : hasM 109 113 = false := rfl
  have f108 : hasM 109 108 = false := rfl
  have f100 : hasM 109 100 = false := rfl
  have f115 : hasM 109 115 = false := rfl
  simp [ownT, layOk, layS, lay0, stepT, partT, partOk, hp, hk, f101, f122, f105, f99, f113, f108, f100, f115, h1, h2, h3, h4, h5, h6, h7, h8, h9, h10, sameT, bareT, sameQs, qidZ]
theorem own2_ok_111 (tag code msize iounit count : Int) (name : List UInt8) (qid : QidV) (qids : List QidV) (data : List UInt8) (sqid : QidV) (smode ssize : Int) (sname : List UInt8) (h : InT2 ⟨111, tag, code, msize, iounit, count, name, qid, qids, data, sqid, smode, ssize, sname⟩) : layOk (ownT ⟨111, tag, code, msize, iounit, count, name, qid, qids, data, sqid, smode, ssize, sname⟩) = true := by
  obtain ⟨h1, h2, h3, h4, h5, h6, h7, h8, h9, h10⟩ := h
  simp only at h1 h2 h3 h4 h5 h6 h7 h8 h9 h10
  have hp : partsM 111 = [6] := rfl
  have hk : (111 : Int) ∈ kindsW := by decide
  have f101 : hasM 111 101 = false := rfl
  have f122 : hasM 111 122 = false := rfl
  have f105 : hasM 111 105 = false := rfl
  have f99 : hasM 111 99 = false := rfl
  have f113 : hasM 111 113 = false := rfl
  have f108 : hasM 111 108 = true := rfl
  have f100 : hasM 111 100 = false := rfl
  have f115 : hasM 111 115 = false := rfl
  simp [ownT, layOk, layS, lay0, stepT, partT, partOk, hp, hk, f101, f122, f105, f99, f113, f108, f100, f115, h1, h2, h3, h4, h5, h6, h7, h8, h9, h10, sameT, bareT, sameQs, qidZ]
theorem own2_ok_113 (tag code msize iounit count : Int) (name : List UInt8) (qid : QidV) (qids : List QidV) (data : List UInt8) (sqid : QidV) (smode ssize : Int) (sname : List UInt8) (h : InT2 ⟨113, tag, code, msize, iounit, count, name, qid, qids, data, sqid, smode, ssize, sname⟩) : layOk (ownT ⟨113, tag, code, msize, iounit, count, name, qid, qids, data, sqid, smode, ssize, sname⟩) = true := by
  obtain ⟨h1, h2, h3, h4, h5, h6, h7, h8, h9, h10⟩ := h
  simp only at h1 h2 h3 h4 h5 h6 h7 h8 h9 h10
  have hp : partsM 113 = [5, 1] := rfl
  have hk : (113 : Int) ∈ kindsW := by decide
  have f101 : hasM 113 101 = false := rfl
  have f122 : hasM 113 122 = false := rfl
  have f105 : hasM 113 105 = true := rfl
  have f99 : hasM 113 99 = false := rfl
  have f113 : hasM 113 113 = true := rfl
  have f108 : hasM 113 108 = false := rfl
  have f100 : hasM 113 100 = false := rfl
  have f115 : hasM 113 115 = false := rfl
  simp [ownT, layOk, layS, lay0, stepT, partT, partOk, hp, hk, f101, f122, f105, f99, f113, f108, f100, f115, h1, h2, h3, h4, h5, h6, h7, h8, h9, h10, sameT, bareT, sameQs, qidZ]
theorem own2_ok_115 (tag code msize iounit count : Int) (name : List UInt8) (qid : QidV) (qids : List QidV) (data : List UInt8) (sqid : QidV) (smode ssize : Int) (sname : List UInt8) (h : InT2 ⟨115, tag, code, msize, iounit, count, name, qid, qids, data, sqid, smode, ssize, sname⟩) : layOk (ownT ⟨115, tag, code, msize, iounit, count, name, qid, qids, data, sqid, smode, ssize, sname⟩) = true := by
  obtain ⟨h1, h2, h3, h4, h5, h6, h7, h8, h9, h10⟩ := h
  simp only at h1 h2 h3 h4 h5 h6 h7 h8 h9 h10
  have hp : partsM 115 = [5, 1] := rfl
  have hk : (115 : Int) ∈ kindsW := by decide
  have f101 : hasM 115 101 = false := rfl
  have f122 : hasM 115 122 = false := rfl
  have f105 : hasM 115 105 = true := rfl
  have f99 : hasM 115 99 = false := rfl
  have f113 : hasM 115 113 = true := rfl
  have f108 : hasM 115 108 = false := rfl
  have f100 : hasM 115 100 = false := rfl
  have f115 : hasM 115 115 = false := rfl
  simp [ownT, layOk, layS, lay0, stepT, partT, partOk, hp, hk, f101, f122, f105, f99, f113, f108, f100, f115, h1, h2, h3, h4, h5, h6, h7, h8, h9, h10, sameT, bareT, sameQs, qidZ]
theorem own2_ok_117 (tag code msize iounit count : Int) (name : List UInt8) (qid : QidV) (qids : List QidV) (data : List UInt8) (sqid : QidV) (smode ssize : Int) (sname : List UInt8) (h : InT2 ⟨117, tag, code, msize, iounit, count, name, qid, qids, data, sqid, smode, ssize, sname⟩) : layOk (ownT ⟨117, tag, code, msize, iounit, count, name, qid, qids, data, sqid, smode, ssize, sname⟩) = true := by
  obtain ⟨h1, h2, h3, h4, h5, h6, h7, h8, h9, h10⟩ := h
  simp only at h1 h2 h3 h4 h5 h6 h7 h8 h9 h10
  have hp : partsM 117 = [7] := rfl
  have hk : (117 : Int) ∈ kindsW := by decide
  have f101 : hasM 117 101 = false := rfl
  have f122 : hasM 117 122 = false := rfl
  have f105 : hasM 117 105 = false := rfl
  have f99 : hasM 117 99 = false := rfl
  have f113 : hasM 117 113 = false := rfl
  have f108 : hasM 117 108 = false := rfl
  have f100 : hasM 117 100 = true := rfl
  have f115 : hasM 117 115 = false := rfl
  simp [ownT, layOk, layS, lay0, stepT, partT, partOk, hp, hk, f101, f122, f105, f99, f113, f108, f100, f115, h1, h2, h3, h4, h5, h6, h7, h8, h9, h10, sameT, bareT, sameQs, qidZ]
theorem own2_ok_119 (tag code msize iounit count : Int) (name : List UInt8) (qid : QidV) (qids : List QidV) (data : List UInt8) (sqid : QidV) (smode ssize : Int) (sname : List UInt8) (h : InT2 ⟨119, tag, code, msize, iounit, count, name, qid, qids, data, sqid, smode, ssize, sname⟩) : layOk (ownT ⟨119, tag, code, msize, iounit, count, name, qid, qids, data, sqid, smode, ssize, sname⟩) = true := by
  obtain ⟨h1, h2, h3, h4, h5, h6, h7, h8, h9, h10⟩ := h
  simp only at h1 h2 h3 h4 h5 h6 h7 h8 h9 h10
  have hp : partsM 119 = [2] := rfl
  have hk : (119 : Int) ∈ kindsW := by decide
  have f101 : hasM 119 101 = false := rfl
  have f122 : hasM 119 122 = false := rfl
  have f105 : hasM 119 105 = false := rfl
  have f99 : hasM 119 99 = true := rfl
  have f113 : hasM 119 113 = false := rfl
  have f108 : hasM 119 108 = false := rfl
  have f100 : hasM 119 100 = false := rfl
  have f115 : hasM 119 115 = false := rfl
  simp [ownT, layOk, layS, lay0, stepT, partT, partOk, hp, hk, f101, f122, f105, f99, f113, f108, f100, f115, h1, h2, h3, h4, h5, h6, h7, h8, h9, h10, sameT, bareT, sameQs, qidZ]
theorem own2_ok_121 (tag code msize iounit count : Int) (name : List UInt8) (qid : QidV) (qids : List QidV) (data : List UInt8) (sqid : QidV) (smode ssize : Int) (sname : List UInt8) (h : InT2 ⟨121, tag, code, msize, iounit, count, name, qid, qids, data, sqid, smode, ssize, sname⟩) : layOk (ownT ⟨121, tag, code, msize, iounit, count, name, qid, qids, data, sqid, smode, ssize, sname⟩) = true := by
  obtain ⟨h1, h2, h3, h4, h5, h6, h7, h8, h9, h10⟩ := h
  simp only at h1 h2 h3 h4 h5 h6 h7 h8 h9 h10
  have hp : partsM 121 = [] := rfl
  have hk : (121 : Int) ∈ kindsW := by decide
  have f101 : hasM 121 101 = false := rfl
  have f122 : hasM 121 122 = false := rfl
  have f105 : hasM 121 105 = false := rfl
  have f99 : hasM 121 99 = false := rfl
  have f113 : hasM 121 113 = false := rfl
  have f108 : hasM 121 108 = false := rfl
  have f100 : hasM 121 100 = false := rfl
  have f115 : hasM 121 115 = false := rfl
  simp [ownT, layOk, layS, lay0, stepT, partT, partOk, hp, hk, f101, f122, f105, f99, f113, f108, f100, f115, h1, h2, h3, h4, h5, h6, h7, h8, h9, h10, sameT, bareT, sameQs, qidZ]
theorem own2_ok_123 (tag code msize iounit count : Int) (name : List UInt8) (qid : QidV) (qids : List QidV) (data : List UInt8) (sqid : QidV) (smode ssize : Int) (sname : List UInt8) (h : InT2 ⟨123, tag, code, msize, iounit, count, name, qid, qids, data, sqid, smode, ssize, sname⟩) : layOk (ownT ⟨123, tag, code, msize, iounit, count, name, qid, qids, data, sqid, smode, ssize, sname⟩) = true := by
  obtain ⟨h1, h2, h3, h4, h5, h6, h7, h8, h9, h10⟩ := h
  simp only at h1 h2 h3 h4 h5 h6 h7 h8 h9 h10
  have hp : partsM 123 = [] := rfl
  have hk : (123 : Int) ∈ kindsW := by decide
  have f101 : hasM 123 101 = false := rfl
  have f122 : hasM 123 122 = false := rfl
  have f105 : hasM 123 105 = false := rfl
  have f99 : hasM 123 99 = false := rfl
  have f113 : hasM 123 113 = false := rfl
  have f108 : hasM 123 108 = false := rfl
  have f100 : hasM 123 100 = false := rfl
  have f115 : hasM 123 115 = false := rfl
  simp [ownT, layOk, layS, lay0, stepT, partT, partOk, hp, hk, f101, f122, f105, f99, f113, f108, f100, f115, h1, h2, h3, h4, h5, h6, h7, h8, h9, h10, sameT, bareT, sameQs, qidZ]
theorem own2_ok_125 (tag code msize iounit count : Int) (name : List UInt8) (qid : QidV) (qids : List QidV) (data : List UInt8) (sqid : QidV) (smode ssize : Int) (sname : List UInt8) (h : InT2 ⟨125, tag, code, msize, iounit, count, name, qid, qids, data, sqid, smode, ssize, sname⟩) : layOk (ownT ⟨125, tag, code, msize, iounit, count, name, qid, qids, data, sqid, smode, ssize, sname⟩) = true := by
  obtain ⟨h1, h2, h3, h4, h5, h6, h7, h8, h9, h10⟩ := h
  simp only at h1 h2 h3 h4 h5 h6 h7 h8 h9 h10
  have hp : partsM 125 = [8] := rfl
  have hk : (125 : Int) ∈ kindsW := by decide
  have f101 : hasM 125 101 = false := rfl
  have f122 : hasM 125 122 = false := rfl
  have f105 : hasM 125 105 = false := rfl
  have f99 : hasM 125 99 = false := rfl
  have f113 : hasM 125 113 = false := rfl
  have f108 : hasM 125 108 = false := rfl
  have f100 : hasM 125 100 = false := rfl
  have f115 : hasM 125 115 = true := rfl
  simp [ownT, layOk, layS, lay0, stepT, partT, partOk, hp, hk, f101, f122, f105, f99, f113, f108, f100, f115, h1, h2, h3, h4, h5, h6, h7, h8, h9, h10, sameT, bareT, sameQs, qidZ]
theorem own2_ok_127 (tag code msize iounit count : Int) (name : List UInt8) (qid : QidV) (qids : List QidV) (data : List UInt8) (sqid : QidV) (smode ssize : Int) (sname : List UInt8) (h : InT2 ⟨127, tag, code, msize, iounit, count, name, qid, qids, data, sqid, smode, ssize, sname⟩) : layOk (ownT ⟨127, tag, code, msize, iounit, count, name, qid, qids, data, sqid, smode, ssize, sname⟩) = true := by
  obtain ⟨h1, h2, h3, h4, h5, h6, h7, h8, h9, h10⟩ := h
  simp only at h1 h2 h3 h4 h5 h6 h7 h8 h9 h10
  have hp : partsM 127 = [] := rfl
  have hk : (127 : Int) ∈ kindsW := by decide
  have f101 : hasM 127 101 = false := rfl
  have f122 : hasM 127 122 = false := rfl
  have f105 : hasM 127 105 = false := rfl
  have f99 : hasM 127 99 = false := rfl
  have f113 : hasM 127 113 = false := rfl
  have f108 : hasM 127 108 = false := rfl
  have f100 : hasM 127 100 = false := rfl
  have f115 : hasM 127 115 = false := rfl
  simp [ownT, layOk, layS, lay0, stepT, partT, partOk, hp, hk, f101, f122, f105, f99, f113, f108, f100, f115, h1, h2, h3, h4, h5, h6, h7, h8, h9, h10, sameT, bareT, sameQs, qidZ]
theorem own2_ok (u : TellV) (hk : u.kind ∈ kindsW) (h : InT2 u) : layOk (ownT u) = true := by
  obtain ⟨kind, tag, code, msize, iounit, count, name, qid, qids, data, sqid, smode, ssize, sname⟩ := u
  simp only [kindsW, List.mem_cons, List.not_mem_nil, or_false] at hk
  rcases hk with rfl | rfl | rfl | rfl | rfl | rfl | rfl | rfl | rfl | rfl | rfl | rfl | rfl
  · exact own2_ok_101 tag code msize iounit count name qid qids data sqid smode ssize sname h
  · exact own2_ok_105 tag code msize iounit count name qid qids data sqid smode ssize sname h
  · exact own2_ok_107 tag code msize iounit count name qid qids data sqid smode ssize sname h
  · exact own2_ok_109 tag code msize iounit count name qid qids data sqid smode ssize sname h
  · exact own2_ok_111 tag code msize iounit count name qid qids data sqid smode ssize sname h
  · exact own2_ok_113 tag code msize iounit count name qid qids data sqid smode ssize sname h
  · exact own2_ok_115 tag code msize iounit count name qid qids data sqid smode ssize sname h
  · exact own2_ok_117 tag code msize iounit count name qid qids data sqid smode ssize sname h
  · exact own2_ok_119 tag code msize iounit count name qid qids data sqid smode ssize sname h
  · exact own2_ok_121 tag code msize iounit count name qid qids data sqid smode ssize sname h
  · exact own2_ok_123 tag code msize iounit count name qid qids data sqid smode ssize sname h
  · exact own2_ok_125 tag code msize iounit count name qid qids data sqid smode ssize sname h
  · exact own2_ok_127 tag code msize iounit count name qid qids data sqid smode ssize sname h
theorem sameT_eq (a b : TellV) (h : sameT a b = true) : a = b := by
  obtain ⟨a1, a2, a3, a4, a5, a6, a7, ⟨a8, a9, a10⟩, a11, a12, ⟨a13, a14, a15⟩, a16, a17, a18⟩ := a
  obtain ⟨b1, b2, b3, b4, b5, b6, b7, ⟨b8, b9, b10⟩, b11, b12, ⟨b13, b14, b15⟩, b16, b17, b18⟩ := b
  simp only [sameT, Bool.and_eq_true, beq_iff_eq] at h
  obtain ⟨⟨⟨⟨⟨⟨⟨⟨⟨⟨⟨⟨⟨⟨⟨⟨⟨h1, h2⟩, h3⟩, h4⟩, h5⟩, h6⟩, h7⟩, h8⟩, h9⟩, h10⟩, h11⟩, h12⟩, h13⟩, h14⟩, h15⟩, h16⟩, h17⟩, h18⟩ := h
  have h11 := sameQs_eq _ _ h11
  subst h1 h2 h3 h4 h5 h6 h7 h8 h9 h10 h11 h12 h13 h14 h15 h16 h17 h18
  rfl
theorem may_lay (t : TellV) (h : mayT t = true) : layOk t = true := by
  simp only [mayT, Bool.and_eq_true, decide_eq_true_eq] at h
  obtain ⟨⟨⟨⟨⟨⟨⟨⟨⟨⟨⟨⟨⟨⟨⟨h0, h1⟩, h2⟩, h3⟩, h4⟩, h5⟩, h6⟩, h7⟩, h8⟩, h9⟩, h10⟩, h11⟩, h12⟩, h13⟩, h14⟩, h15⟩ := h
  have he := sameT_eq _ _ h0
  have hk : t.kind ∈ kindsW := by
    apply Classical.byContradiction
    intro hn
    have h1' : kindsW.findIdx (· == t.kind) = kindsW.length := by
      rw [List.findIdx_eq_length]
      intro x hx
      simp only [beq_eq_false_iff_ne, ne_eq]
      rintro rfl
      exact hn hx
    have hf : fieldsM t.kind = [] := by unfold fieldsM; rw [h1']; rfl
    rw [hf] at h1
    simp at h1
  have := own2_ok t hk ⟨h2, h3, h11, h12, h13, h6, h9, by simp [qidsOk, h4, h8], h5, by simp [statOk, h10, h14, h15, h7]⟩
  rw [he] at this
  exact this
theorem sameQs_iffB (a b : List QidV) : sameQs a b = true ↔ a = b := ⟨sameQs_eq a b, fun h => by rw [h]; exact sameQs_refl b⟩
theorem zero_flip (n : Int) : (0 : Int) = n ↔ n = 0 := eq_comm
theorem lay_may_101 (tag code msize iounit count : Int) (name : List UInt8) (qid : QidV) (qids : List QidV) (data : List UInt8) (sqid : QidV) (smode ssize : Int) (sname : List UInt8) (h : layOk ⟨101, tag, code, msize, iounit, count, name, qid, qids, data, sqid, smode, ssize, sname⟩ = true) : mayT ⟨101, tag, code, msize, iounit, count, name, qid, qids, data, sqid, smode, ssize, sname⟩ = true := by
  obtain ⟨qd, qv, qp⟩ := qid
  obtain ⟨sd, sv, sp⟩ := sqid
  have hp : partsM 101 = [0, 4] := rfl
  have hf : fieldsM 101 = [122, 110] := rfl
  have f101 : hasM 101 101 = false := rfl
  have f122 : hasM 101 122 = true := rfl
  have f105 : hasM 101 105 = false := rfl
  have f99 : hasM 101 99 = false := rfl
  have f113 : hasM 101 113 = false := rfl
  have f108 : hasM 101 108 = false := rfl
  have f100 : hasM 101 100 = false := rfl
  have f115 : hasM 101 115 = false := rfl
  simp [layOk, layS, lay0, stepT, partT, partOk, hp, sameT, bareT, qidZ, sameQs_iffB] at h
  simp [mayT, ownT, f101, f122, f105, f99, f113, f108, f100, f115, hf, sameT, sameQs_refl, sameQs_iffB, qidZ]
  clear hp hf f101 f122 f105 f99 f113 f108 f100 f115
  simp_all [inB_def, qidOk, qidsOk, statOk]
theorem lay_may_105 (tag code msize iounit count : Int) (name : List UInt8) (qid : QidV) (qids : List QidV) (data : List UInt8) (sqid : QidV) (smode ssize : Int) (sname : List UInt8) (h : layOk ⟨105, tag, code, msize, iounit, count, name, qid, qids, data, sqid, smode, ssize, sname⟩ = true) : mayT ⟨105, tag, code, msize, iounit, count, name, qid, qids, data, sqid, smode, ssize, sname⟩ = true := by
  obtain ⟨qd, qv, qp⟩ := qid
  obtain ⟨sd, sv, sp⟩ := sqid
  have hp : partsM 105 = [5] := rfl
  have hf : fieldsM 105 = [113] := rfl
  have f101 : hasM 105 101 = false := rfl
  have f122 : hasM 105 122 = false := rfl
  have f105 : hasM 105 105 = false := rfl
  have f99 : hasM 105 99 = false := rfl
  have f113 : hasM 105 113 = true := rfl
  have f108 : hasM 105 108 = false := rfl
  have f100 : hasM 105 100 = false := rfl
  have f115 : hasM 105 115 = false := rfl
  simp [layOk, layS, lay0, stepT, partT, partOk, hp, sameT, bareT, qidZ, sameQs_iffB] at h
  simp [mayT, ownT, f101, f122, f105, f99, f113, f108, f100, f115, hf, sameT, sameQs_refl, sameQs_iffB, qidZ]
  clear hp hf f101 f122 f105 f99 f113 f108 f100 f115
  simp_all [inB_def, qidOk, qidsOk, statOk]
theorem lay_may_107 (tag code msize iounit count : Int) (name : List UInt8) (qid : QidV) (qids : List QidV) (data : List UInt8) (sqid : QidV) (smode ssize : Int) (sname : List UInt8) (h : layOk ⟨107, tag, code, msize, iounit, count, name, qid, qids, data, sqid, smode, ssize, sname⟩ = true) : mayT ⟨107, tag, code, msize, iounit, count, name, qid, qids, data, sqid, smode, ssize, sname⟩ = true := by
  obtain ⟨qd, qv, qp⟩ := qid
  obtain ⟨sd, sv, sp⟩ := sqid
  have hp : partsM 107 = [3] := rfl
  have hf : fieldsM 107 = [101] := rfl
  have f101 : hasM 107 101 = true := rfl
  have f122 : hasM 107 122 = false := rfl
  have f105 : hasM 107 105 = false := rfl
  have f99 : hasM 107 99 = false := rfl
  have f113 : hasM 107 113 = false := rfl
  have f108 : hasM 107 108 = false := rfl
  have f100 : hasM 107 100 = false := rfl
  have f115 : hasM 107 115 = false := rfl
  simp [layOk, layS, lay0, stepT, partT, partOk, hp, sameT, bareT, qidZ, sameQs_iffB] at h
  simp [mayT, ownT, f101, f122, f105, f99, f113, f108, f100, f115, hf, sameT, sameQs_refl, sameQs_iffB, qidZ]
  clear hp hf f101 f122 f105 f99 f113 f108 f100 f115
  simp_all [inB_def, qidOk, qidsOk, statOk]
theorem lay_may_109 (tag code msize iounit count : Int) (name : List UInt8) (qid : QidV) (qids : List QidV) (data : List UInt8) (sqid : QidV) (smode ssize : Int) (sname : List UInt8) (h : layOk ⟨109, tag, code, msize, iounit, count, name, qid, qids, data, sqid, smode, ssize, sname⟩ = true) : mayT ⟨109, tag, code, msize, iounit, count, name, qid, qids, data, sqid, smode, ssize, sname⟩ = true := by
  obtain ⟨qd, qv, qp⟩ := qid
  obtain ⟨sd, sv, sp⟩ := sqid
  have hp : partsM 109 = [] := rfl
  have hf : fieldsM 109 = [45] := rfl
  have f101 : hasM 109 101 = false := rfl
  have f122 : hasM 109 122 = false := rfl
  have f105 : hasM 109 105 = false := rfl
  have f99 : hasM 109 99 = false := rfl
  have f113 : hasM 109 113 = false := rfl
  have f108 : hasM 109 108 = false := rfl
  have f100 : hasM 109 100 = false := rfl
  have f115 : hasM 109 115 = false := rfl
  simp [layOk, layS, lay0, stepT, partT, partOk, hp, sameT, bareT, qidZ, sameQs_iffB] at h
  simp [mayT, ownT, f101, f122, f105, f99, f113, f108, f100, f115, hf, sameT, sameQs_refl, sameQs_iffB, qidZ]
  clear hp hf f101 f122 f105 f99 f113 f108 f100 f115
  simp_all [inB_def, qidOk, qidsOk, statOk]
theorem lay_may_111 (tag code msize iounit count : Int) (name : List UInt8) (qid : QidV) (qids : List QidV) (data : List UInt8) (sqid : QidV) (smode ssize : Int) (sname : List UInt8) (h : layOk ⟨111, tag, code, msize, iounit, count, name, qid, qids, data, sqid, smode, ssize, sname⟩ = true) : mayT ⟨111, tag, code, msize, iounit, count, name, qid, qids, data, sqid, smode, ssize, sname⟩ = true := by
  obtain ⟨qd, qv, qp⟩ := qid
  obtain ⟨sd, sv, sp⟩ := sqid
  have hp : partsM 111 = [6] := rfl
  have hf : fieldsM 111 = [108] := rfl
  have f101 : hasM 111 101 = false := rfl
  have f122 : hasM 111 122 = false := rfl
  have f105 : hasM 111 105 = false := rfl
  have f99 : hasM 111 99 = false := rfl
  have f113 : hasM 111 113 = false := rfl
  have f108 : hasM 111 108 = true := rfl
  have f100 : hasM 111 100 = false := rfl
  have f115 : hasM 111 115 = false := rfl
  simp [layOk, layS, lay0, stepT, partT, partOk, hp, sameT, bareT, qidZ, sameQs_iffB] at h
  simp [mayT, ownT, f101, f122, f105, f99, f113, f108, f100, f115, hf, sameT, sameQs_refl, sameQs_iffB, qidZ]
  clear hp hf f101 f122 f105 f99 f113 f108 f100 f115
  simp_all [inB_def, qidOk, qidsOk, statOk]
theorem lay_may_113 (tag code msize iounit count : Int) (name : List UInt8) (qid : QidV) (qids : List QidV) (data : List UInt8) (sqid : QidV) (smode ssize : Int) (sname : List UInt8) (h : layOk ⟨113, tag, code, msize, iounit, count, name, qid, qids, data, sqid, smode, ssize, sname⟩ = true) : mayT ⟨113, tag, code, msize, iounit, count, name, qid, qids, data, sqid, smode, ssize, sname⟩ = true := by
  obtain ⟨qd, qv, qp⟩ := qid
  obtain ⟨sd, sv, sp⟩ := sqid
  have hp : partsM 113 = [5, 1] := rfl
  have hf : fieldsM 113 = [113, 105] := rfl
  have f101 : hasM 113 101 = false := rfl
  have f122 : hasM 113 122 = false := rfl
  have f105 : hasM 113 105 = true := rfl
  have f99 : hasM 113 99 = false := rfl
  have f113 : hasM 113 113 = true := rfl
  have f108 : hasM 113 108 = false := rfl
  have f100 : hasM 113 100 = false := rfl
  have f115 : hasM 113 115 = false := rfl
  simp [layOk, layS, lay0, stepT, partT, partOk, hp, sameT, bareT, qidZ, sameQs_iffB] at h
  simp [mayT, ownT, f101, f122, f105, f99, f113, f108, f100, f115, hf, sameT, sameQs_refl, sameQs_iffB, qidZ]
  clear hp hf f101 f122 f105 f99 f113 f108 f100 f115
  simp_all [inB_def, qidOk, qidsOk, statOk]
theorem lay_may_115 (tag code msize iounit count : Int) (name : List UInt8) (qid : QidV) (qids : List QidV) (data : List UInt8) (sqid : QidV) (smode ssize : Int) (sname : List UInt8) (h : layOk ⟨115, tag, code, msize, iounit, count, name, qid, qids, data, sqid, smode, ssize, sname⟩ = true) : mayT ⟨115, tag, code, msize, iounit, count, name, qid, qids, data, sqid, smode, ssize, sname⟩ = true := by
  obtain ⟨qd, qv, qp⟩ := qid
  obtain ⟨sd, sv, sp⟩ := sqid
  have hp : partsM 115 = [5, 1] := rfl
  have hf : fieldsM 115 = [113, 105] := rfl
  have f101 : hasM 115 101 = false := rfl
  have f122 : hasM 115 122 = false := rfl
  have f105 : hasM 115 105 = true := rfl
  have f99 : hasM 115 99 = false := rfl
  have f113 : hasM 115 113 = true := rfl
  have f108 : hasM 115 108 = false := rfl
  have f100 : hasM 115 100 = false := rfl
  have f115 : hasM 115 115 = false := rfl
  simp [layOk, layS, lay0, stepT, partT, partOk, hp, sameT, bareT, qidZ, sameQs_iffB] at h
  simp [mayT, ownT, f101, f122, f105, f99, f113, f108, f100, f115, hf, sameT, sameQs_refl, sameQs_iffB, qidZ]
  clear hp hf f101 f122 f105 f99 f113 f108 f100 f115
  simp_all [inB_def, qidOk, qidsOk, statOk]
theorem lay_may_117 (tag code msize iounit count : Int) (name : List UInt8) (qid : QidV) (qids : List QidV) (data : List UInt8) (sqid : QidV) (smode ssize : Int) (sname : List UInt8) (h : layOk ⟨117, tag, code, msize, iounit, count, name, qid, qids, data, sqid, smode, ssize, sname⟩ = true) : mayT ⟨117, tag, code, msize, iounit, count, name, qid, qids, data, sqid, smode, ssize, sname⟩ = true := by
  obtain ⟨qd, qv, qp⟩ := qid
  obtain ⟨sd, sv, sp⟩ := sqid
  have hp : partsM 117 = [7] := rfl
  have hf : fieldsM 117 = [100] := rfl
  have f101 : hasM 117 101 = false := rfl
  have f122 : hasM 117 122 = false := rfl
  have f105 : hasM 117 105 = false := rfl
  have f99 : hasM 117 99 = false := rfl
  have f113 : hasM 117 113 = false := rfl
  have f108 : hasM 117 108 = false := rfl
  have f100 : hasM 117 100 = true := rfl
  have f115 : hasM 117 115 = false := rfl
  simp [layOk, layS, lay0, stepT, partT, partOk, hp, sameT, bareT, qidZ, sameQs_iffB] at h
  simp [mayT, ownT, f101, f122, f105, f99, f113, f108, f100, f115, hf, sameT, sameQs_refl, sameQs_iffB, qidZ]
  clear hp hf f101 f122 f105 f99 f113 f108 f100 f115
  simp_all [inB_def, qidOk, qidsOk, statOk]
theorem lay_may_119 (tag code msize iounit count : Int) (name : List UInt8) (qid : QidV) (qids : List QidV) (data : List UInt8) (sqid : QidV) (smode ssize : Int) (sname : List UInt8) (h : layOk ⟨119, tag, code, msize, iounit, count, name, qid, qids, data, sqid, smode, ssize, sname⟩ = true) : mayT ⟨119, tag, code, msize, iounit, count, name, qid, qids, data, sqid, smode, ssize, sname⟩ = true := by
  obtain ⟨qd, qv, qp⟩ := qid
  obtain ⟨sd, sv, sp⟩ := sqid
  have hp : partsM 119 = [2] := rfl
  have hf : fieldsM 119 = [99] := rfl
  have f101 : hasM 119 101 = false := rfl
  have f122 : hasM 119 122 = false := rfl
  have f105 : hasM 119 105 = false := rfl
  have f99 : hasM 119 99 = true := rfl
  have f113 : hasM 119 113 = false := rfl
  have f108 : hasM 119 108 = false := rfl
  have f100 : hasM 119 100 = false := rfl
  have f115 : hasM 119 115 = false := rfl
  simp [layOk, layS, lay0, stepT, partT, partOk, hp, sameT, bareT, qidZ, sameQs_iffB] at h
  simp [mayT, ownT, f101, f122, f105, f99, f113, f108, f100, f115, hf, sameT, sameQs_refl, sameQs_iffB, qidZ]
  clear hp hf f101 f122 f105 f99 f113 f108 f100 f115
  simp_all [inB_def, qidOk, qidsOk, statOk]
theorem lay_may_121 (tag code msize iounit count : Int) (name : List UInt8) (qid : QidV) (qids : List QidV) (data : List UInt8) (sqid : QidV) (smode ssize : Int) (sname : List UInt8) (h : layOk ⟨121, tag, code, msize, iounit, count, name, qid, qids, data, sqid, smode, ssize, sname⟩ = true) : mayT ⟨121, tag, code, msize, iounit, count, name, qid, qids, data, sqid, smode, ssize, sname⟩ = true := by
  obtain ⟨qd, qv, qp⟩ := qid
  obtain ⟨sd, sv, sp⟩ := sqid
  have hp : partsM 121 = [] := rfl
  have hf : fieldsM 121 = [45] := rfl
  have f101 : hasM 121 101 = false := rfl
  have f122 : hasM 121 122 = false := rfl
  have f105 : hasM 121 105 = false := rfl
  have f99 : hasM 121 99 = false := rfl
  have f113 : hasM 121 113 = false := rfl
  have f108 : hasM 121 108 = false := rfl
  have f100 : hasM 121 100 = false := rfl
  have f115 : hasM 121 115 = false := rfl
  simp [layOk, layS, lay0, stepT, partT, partOk, hp, sameT, bareT, qidZ, sameQs_iffB] at h
  simp [mayT, ownT, f101, f122, f105, f99, f113, f108, f100, f115, hf, sameT, sameQs_refl, sameQs_iffB, qidZ]
  clear hp hf f101 f122 f105 f99 f113 f108 f100 f115
  simp_all [inB_def, qidOk, qidsOk, statOk]
theorem lay_may_123 (tag code msize iounit count : Int) (name : List UInt8) (qid : QidV) (qids : List QidV) (data : List UInt8) (sqid : QidV) (smode ssize : Int) (sname : List UInt8) (h : layOk ⟨123, tag, code, msize, iounit, count, name, qid, qids, data, sqid, smode, ssize, sname⟩ = true) : mayT ⟨123, tag, code, msize, iounit, count, name, qid, qids, data, sqid, smode, ssize, sname⟩ = true := by
  obtain ⟨qd, qv, qp⟩ := qid
  obtain ⟨sd, sv, sp⟩ := sqid
  have hp : partsM 123 = [] := rfl
  have hf : fieldsM 123 = [45] := rfl
  have f101 : hasM 123 101 = false := rfl
  have f122 : hasM 123 122 = false := rfl
  have f105 : hasM 123 105 = false := rfl
  have f99 : hasM 123 99 = false := rfl
  have f113 : hasM 123 113 = false := rfl
  have f108 : hasM 123 108 = false := rfl
  have f100 : hasM 123 100 = false := rfl
  have f115 : hasM 123 115 = false := rfl
  simp [layOk, layS, lay0, stepT, partT, partOk, hp, sameT, bareT, qidZ, sameQs_iffB] at h
  simp [mayT, ownT, f101, f122, f105, f99, f113, f108, f100, f115, hf, sameT, sameQs_refl, sameQs_iffB, qidZ]
  clear hp hf f101 f122 f105 f99 f113 f108 f100 f115
  simp_all [inB_def, qidOk, qidsOk, statOk]
theorem lay_may_125 (tag code msize iounit count : Int) (name : List UInt8) (qid : QidV) (qids : List QidV) (data : List UInt8) (sqid : QidV) (smode ssize : Int) (sname : List UInt8) (h : layOk ⟨125, tag, code, msize, iounit, count, name, qid, qids, data, sqid, smode, ssize, sname⟩ = true) : mayT ⟨125, tag, code, msize, iounit, count, name, qid, qids, data, sqid, smode, ssize, sname⟩ = true := by
  obtain ⟨qd, qv, qp⟩ := qid
  obtain ⟨sd, sv, sp⟩ := sqid
  have hp : partsM 125 = [8] := rfl
  have hf : fieldsM 125 = [115] := rfl
  have f101 : hasM 125 101 = false := rfl
  have f122 : hasM 125 122 = false := rfl
  have f105 : hasM 125 105 = false := rfl
  have f99 : hasM 125 99 = false := rfl
  have f113 : hasM 125 113 = false := rfl
  have f108 : hasM 125 108 = false := rfl
  have f100 : hasM 125 100 = false := rfl
  have f115 : hasM 125 115 = true := rfl
  simp [layOk, layS, lay0, stepT, partT, partOk, hp, sameT, bareT, qidZ, sameQs_iffB] at h
  simp [mayT, ownT, f101, f122, f105, f99, f113, f108, f100, f115, hf, sameT, sameQs_refl, sameQs_iffB, qidZ]
  clear hp hf f101 f122 f105 f99 f113 f108 f100 f115
  simp_all [inB_def, qidOk, qidsOk, statOk]
theorem lay_may_127 (tag code msize iounit count : Int) (name : List UInt8) (qid : QidV) (qids : List QidV) (data : List UInt8) (sqid : QidV) (smode ssize : Int) (sname : List UInt8) (h : layOk ⟨127, tag, code, msize, iounit, count, name, qid, qids, data, sqid, smode, ssize, sname⟩ = true) : mayT ⟨127, tag, code, msize, iounit, count, name, qid, qids, data, sqid, smode, ssize, sname⟩ = true := by
  obtain ⟨qd, qv, qp⟩ := qid
  obtain ⟨sd, sv, sp⟩ := sqid
  have hp : partsM 127 = [] := rfl
  have hf : fieldsM 127 = [45] := rfl
  have f101 : hasM 127 101 = false := rfl
  have f122 : hasM 127 122 = false := rfl
  have f105 : hasM 127 105 = false := rfl
  have f99 : hasM 127 99 = false := rfl
  have f113 : hasM 127 113 = false := rfl
  have f108 : hasM 127 108 = false := rfl
  have f100 : hasM 127 100 = false := rfl
  have f115 : hasM 127 115 = false := rfl
  simp [layOk, layS, lay0, stepT, partT, partOk, hp, sameT, bareT, qidZ, sameQs_iffB] at h
  simp [mayT, ownT, f101, f122, f105, f99, f113, f108, f100, f115, hf, sameT, sameQs_refl, sameQs_iffB, qidZ]
  clear hp hf f101 f122 f105 f99 f113 f108 f100 f115
  simp_all [inB_def, qidOk, qidsOk, statOk]
theorem layOk_kind (t : TellV) (h : layOk t = true) : t.kind ∈ kindsW ∧ inB t.tag 65535 = true := by
  unfold layOk at h
  rw [Bool.and_eq_true] at h
  have hfold : ∀ (p : List Int) (s : TellV × List UInt8 × Bool), (p.foldl stepT s).2.2 = true → s.2.2 = true := by
    intro p
    induction p with
    | nil => intro s h; exact h
    | cons k ks ih => intro s h; have := ih _ h; simp only [stepT, Bool.and_eq_true] at this; exact this.1
  have hb : (kindsW.contains t.kind && inB t.tag 65535) = true := hfold _ _ h.1
  rw [Bool.and_eq_true] at hb
  exact ⟨by simpa using hb.1, hb.2⟩
theorem lay_may (t : TellV) (h : layOk t = true) : mayT t = true := by
  have hk := (layOk_kind t h).1
  obtain ⟨kind, tag, code, msize, iounit, count, name, qid, qids, data, sqid, smode, ssize, sname⟩ := t
  simp only [kindsW, List.mem_cons, List.not_mem_nil, or_false] at hk
  rcases hk with rfl | rfl | rfl | rfl | rfl | rfl | rfl | rfl | rfl | rfl | rfl | rfl | rfl
  · exact lay_may_101 tag code msize iounit count name qid qids data sqid smode ssize sname h
  · exact lay_may_105 tag code msize iounit count name qid qids data sqid smode ssize sname h
  · exact lay_may_107 tag code msize iounit count name qid qids data sqid smode ssize sname h
  · exact lay_may_109 tag code msize iounit count name qid qids data sqid smode ssize sname h
  · exact lay_may_111 tag code msize iounit count name qid qids data sqid smode ssize sname h
  · exact lay_may_113 tag code msize iounit count name qid qids data sqid smode ssize sname h
  · exact lay_may_115 tag code msize iounit count name qid qids data sqid smode ssize sname h
  · exact lay_may_117 tag code msize iounit count name qid qids data sqid smode ssize sname h
  · exact lay_may_119 tag code msize iounit count name qid qids data sqid smode ssize sname h
  · exact lay_may_121 tag code msize iounit count name qid qids data sqid smode ssize sname h
  · exact lay_may_123 tag code msize iounit count name qid qids data sqid smode ssize sname h
  · exact lay_may_125 tag code msize iounit count name qid qids data sqid smode ssize sname h
  · exact lay_may_127 tag code msize iounit count name qid qids data sqid smode ssize sname h
theorem may_is (t : TellV) : mayT t = layOk t := by
  rw [Bool.eq_iff_iff]
  exact ⟨may_lay t, lay_may t⟩
theorem body_101 (tag code msize iounit count : Int) (name : List UInt8) (qid : QidV) (qids : List QidV) (data : List UInt8) (sqid : QidV) (smode ssize : Int) (sname : List UInt8) (h1 : name.length ≤ 255) (h2 : sname.length ≤ 255) (h3 : qids.length ≤ 8) : (fieldsM 101).flatMap (fieldB ⟨101, tag, code, msize, iounit, count, name, qid, qids, data, sqid, smode, ssize, sname⟩) = layB ⟨101, tag, code, msize, iounit, count, name, qid, qids, data, sqid, smode, ssize, sname⟩ := by
  have hp : partsM 101 = [0, 4] := rfl
  have hf : fieldsM 101 = [122, 110] := rfl
  have e1 : txtB name = le 2 name.length ++ name := by unfold txtB; rw [if_pos h1]
  have e2 : txtB sname = le 2 sname.length ++ sname := by unfold txtB; rw [if_pos h2]
  have e3 : qidsB qids = le 2 qids.length ++ qids.flatMap qidB := by unfold qidsB; rw [if_pos h3]
  simp [hf, layB, layS, lay0, hp, stepT, partB, partT, fieldB, statB, e1, e2, e3]
theorem body_105 (tag code msize iounit count : Int) (name : List UInt8) (qid : QidV) (qids : List QidV) (data : List UInt8) (sqid : QidV) (smode ssize : Int) (sname : List UInt8) (h1 : name.length ≤ 255) (h2 : sname.length ≤ 255) (h3 : qids.length ≤ 8) : (fieldsM 105).flatMap (fieldB ⟨105, tag, code, msize, iounit, count, name, qid, qids, data, sqid, smode, ssize, sname⟩) = layB ⟨105, tag, code, msize, iounit, count, name, qid, qids, data, sqid, smode, ssize, sname⟩ := by
  have hp : partsM 105 = [5] := rfl
  have hf : fieldsM 105 = [113] := rfl
  have e1 : txtB name = le 2 name.length ++ name := by unfold txtB; rw [if_pos h1]
  have e2 : txtB sname = le 2 sname.length ++ sname := by unfold txtB; rw [if_pos h2]
  have e3 : qidsB qids = le 2 qids.length ++ qids.flatMap qidB := by unfold qidsB; rw [if_pos h3]
  simp [hf, layB, layS, lay0, hp, stepT, partB, partT, fieldB, statB, e1, e2, e3]
theorem body_107 (tag code msize iounit count : Int) (name : List UInt8) (qid : QidV) (qids : List QidV) (data : List UInt8) (sqid : QidV) (smode ssize : Int) (sname : List UInt8) (h1 : name.length ≤ 255) (h2 : sname.length ≤ 255) (h3 : qids.length ≤ 8) : (fieldsM 107).flatMap (fieldB ⟨107, tag, code, msize, iounit, count, name, qid, qids, data, sqid, smode, ssize, sname⟩) = layB ⟨107, tag, code, msize, iounit, count, name, qid, qids, data, sqid, smode, ssize, sname⟩ := by
  have hp : partsM 107 = [3] := rfl
  have hf : fieldsM 107 = [101] := rfl
  have e1 : txtB name = le 2 name.length ++ name := by unfold txtB; rw [if_pos h1]
  have e2 : txtB sname = le 2 sname.length ++ sname := by unfold txtB; rw [if_pos h2]
  have e3 : qidsB qids = le 2 qids.length ++ qids.flatMap qidB := by unfold qidsB; rw [if_pos h3]
  simp [hf, layB, layS, lay0, hp, stepT, partB, partT, fieldB, statB, e1, e2, e3]
theorem body_109 (tag code msize iounit count : Int) (name : List UInt8) (qid : QidV) (qids : List QidV) (data : List UInt8) (sqid : QidV) (smode ssize : Int) (sname : List UInt8) (h1 : name.length ≤ 255) (h2 : sname.length ≤ 255) (h3 : qids.length ≤ 8) : (fieldsM 109).flatMap (fieldB ⟨109, tag, code, msize, iounit, count, name, qid, qids, data, sqid, smode, ssize, sname⟩) = layB ⟨109, tag, code, msize, iounit, count, name, qid, qids, data, sqid, smode, ssize, sname⟩ := by
  have hp : partsM 109 = [] := rfl
  have hf : fieldsM 109 = [45] := rfl
  have e1 : txtB name = le 2 name.length ++ name := by unfold txtB; rw [if_pos h1]
  have e2 : txtB sname = le 2 sname.length ++ sname := by unfold txtB; rw [if_pos h2]
  have e3 : qidsB qids = le 2 qids.length ++ qids.flatMap qidB := by unfold qidsB; rw [if_pos h3]
  simp [hf, layB, layS, lay0, hp, stepT, partB, partT, fieldB, statB, e1, e2, e3]
theorem body_111 (tag code msize iounit count : Int) (name : List UInt8) (qid : QidV) (qids : List QidV) (data : List UInt8) (sqid : QidV) (smode ssize : Int) (sname : List UInt8) (h1 : name.length ≤ 255) (h2 : sname.length ≤ 255) (h3 : qids.length ≤ 8) : (fieldsM 111).flatMap (fieldB ⟨111, tag, code, msize, iounit, count, name, qid, qids, data, sqid, smode, ssize, sname⟩) = layB ⟨111, tag, code, msize, iounit, count, name, qid, qids, data, sqid, smode, ssize, sname⟩ := by
  have hp : partsM 111 = [6] := rfl
  have hf : fieldsM 111 = [108] := rfl
  have e1 : txtB name = le 2 name.length ++ name := by unfold txtB; rw [if_pos h1]
  have e2 : txtB sname = le 2 sname.length ++ sname := by unfold txtB; rw [if_pos h2]
  have e3 : qidsB qids = le 2 qids.length ++ qids.flatMap qidB := by unfold qidsB; rw [if_pos h3]
  simp [hf, layB, layS, lay0, hp, stepT, partB, partT, fieldB, statB, e1, e2, e3]
theorem body_113 (tag code msize iounit count : Int) (name : List UInt8) (qid : QidV) (qids : List QidV) (data : List UInt8) (sqid : QidV) (smode ssize : Int) (sname : List UInt8) (h1 : name.length ≤ 255) (h2 : sname.length ≤ 255) (h3 : qids.length ≤ 8) : (fieldsM 113).flatMap (fieldB ⟨113, tag, code, msize, iounit, count, name, qid, qids, data, sqid, smode, ssize, sname⟩) = layB ⟨113, tag, code, msize, iounit, count, name, qid, qids, data, sqid, smode, ssize, sname⟩ := by
  have hp : partsM 113 = [5, 1] := rfl
  have hf : fieldsM 113 = [113, 105] := rfl
  have e1 : txtB name = le 2 name.length ++ name := by unfold txtB; rw [if_pos h1]
  have e2 : txtB sname = le 2 sname.length ++ sname := by unfold txtB; rw [if_pos h2]
  have e3 : qidsB qids = le 2 qids.length ++ qids.flatMap qidB := by unfold qidsB; rw [if_pos h3]
  simp [hf, layB, layS, lay0, hp, stepT, partB, partT, fieldB, statB, e1, e2, e3]
theorem body_115 (tag code msize iounit count : Int) (name : List UInt8) (qid : QidV) (qids : List QidV) (data : List UInt8) (sqid : QidV) (smode ssize : Int) (sname : List UInt8) (h1 : name.length ≤ 255) (h2 : sname.length ≤ 255) (h3 : qids.length ≤ 8) : (fieldsM 115).flatMap (fieldB ⟨115, tag, code, msize, iounit, count, name, qid, qids, data, sqid, smode, ssize, sname⟩) = layB ⟨115, tag, code, msize, iounit, count, name, qid, qids, data, sqid, smode, ssize, sname⟩ := by
  have hp : partsM 115 = [5, 1] := rfl
  have hf : fieldsM 115 = [113, 105] := rfl
  have e1 : txtB name = le 2 name.length ++ name := by unfold txtB; rw [if_pos h1]
  have e2 : txtB sname = le 2 sname.length ++ sname := by unfold txtB; rw [if_pos h2]
  have e3 : qidsB qids = le 2 qids.length ++ qids.flatMap qidB := by unfold qidsB; rw [if_pos h3]
  simp [hf, layB, layS, lay0, hp, stepT, partB, partT, fieldB, statB, e1, e2, e3]
theorem body_117 (tag code msize iounit count : Int) (name : List UInt8) (qid : QidV) (qids : List QidV) (data : List UInt8) (sqid : QidV) (smode ssize : Int) (sname : List UInt8) (h1 : name.length ≤ 255) (h2 : sname.length ≤ 255) (h3 : qids.length ≤ 8) : (fieldsM 117).flatMap (fieldB ⟨117, tag, code, msize, iounit, count, name, qid, qids, data, sqid, smode, ssize, sname⟩) = layB ⟨117, tag, code, msize, iounit, count, name, qid, qids, data, sqid, smode, ssize, sname⟩ := by
  have hp : partsM 117 = [7] := rfl
  have hf : fieldsM 117 = [100] := rfl
  have e1 : txtB name = le 2 name.length ++ name := by unfold txtB; rw [if_pos h1]
  have e2 : txtB sname = le 2 sname.length ++ sname := by unfold txtB; rw [if_pos h2]
  have e3 : qidsB qids = le 2 qids.length ++ qids.flatMap qidB := by unfold qidsB; rw [if_pos h3]
  simp [hf, layB, layS, lay0, hp, stepT, partB, partT, fieldB, statB, e1, e2, e3]
theorem body_119 (tag code msize iounit count : Int) (name : List UInt8) (qid : QidV) (qids : List QidV) (data : List UInt8) (sqid : QidV) (smode ssize : Int) (sname : List UInt8) (h1 : name.length ≤ 255) (h2 : sname.length ≤ 255) (h3 : qids.length ≤ 8) : (fieldsM 119).flatMap (fieldB ⟨119, tag, code, msize, iounit, count, name, qid, qids, data, sqid, smode, ssize, sname⟩) = layB ⟨119, tag, code, msize, iounit, count, name, qid, qids, data, sqid, smode, ssize, sname⟩ := by
  have hp : partsM 119 = [2] := rfl
  have hf : fieldsM 119 = [99] := rfl
  have e1 : txtB name = le 2 name.length ++ name := by unfold txtB; rw [if_pos h1]
  have e2 : txtB sname = le 2 sname.length ++ sname := by unfold txtB; rw [if_pos h2]
  have e3 : qidsB qids = le 2 qids.length ++ qids.flatMap qidB := by unfold qidsB; rw [if_pos h3]
  simp [hf, layB, layS, lay0, hp, stepT, partB, partT, fieldB, statB, e1, e2, e3]
theorem body_121 (tag code msize iounit count : Int) (name : List UInt8) (qid : QidV) (qids : List QidV) (data : List UInt8) (sqid : QidV) (smode ssize : Int) (sname : List UInt8) (h1 : name.length ≤ 255) (h2 : sname.length ≤ 255) (h3 : qids.length ≤ 8) : (fieldsM 121).flatMap (fieldB ⟨121, tag, code, msize, iounit, count, name, qid, qids, data, sqid, smode, ssize, sname⟩) = layB ⟨121, tag, code, msize, iounit, count, name, qid, qids, data, sqid, smode, ssize, sname⟩ := by
  have hp : partsM 121 = [] := rfl
  have hf : fieldsM 121 = [45] := rfl
  have e1 : txtB name = le 2 name.length ++ name := by unfold txtB; rw [if_pos h1]
  have e2 : txtB sname = le 2 sname.length ++ sname := by unfold txtB; rw [if_pos h2]
  have e3 : qidsB qids = le 2 qids.length ++ qids.flatMap qidB := by unfold qidsB; rw [if_pos h3]
  simp [hf, layB, layS, lay0, hp, stepT, partB, partT, fieldB, statB, e1, e2, e3]
theorem body_123 (tag code msize iounit count : Int) (name : List UInt8) (qid : QidV) (qids : List QidV) (data : List UInt8) (sqid : QidV) (smode ssize : Int) (sname : List UInt8) (h1 : name.length ≤ 255) (h2 : sname.length ≤ 255) (h3 : qids.length ≤ 8) : (fieldsM 123).flatMap (fieldB ⟨123, tag, code, msize, iounit, count, name, qid, qids, data, sqid, smode, ssize, sname⟩) = layB ⟨123, tag, code, msize, iounit, count, name, qid, qids, data, sqid, smode, ssize, sname⟩ := by
  have hp : partsM 123 = [] := rfl
  have hf : fieldsM 123 = [45] := rfl
  have e1 : txtB name = le 2 name.length ++ name := by unfold txtB; rw [if_pos h1]
  have e2 : txtB sname = le 2 sname.length ++ sname := by unfold txtB; rw [if_pos h2]
  have e3 : qidsB qids = le 2 qids.length ++ qids.flatMap qidB := by unfold qidsB; rw [if_pos h3]
  simp [hf, layB, layS, lay0, hp, stepT, partB, partT, fieldB, statB, e1, e2, e3]
theorem body_125 (tag code msize iounit count : Int) (name : List UInt8) (qid : QidV) (qids : List QidV) (data : List UInt8) (sqid : QidV) (smode ssize : Int) (sname : List UInt8) (h1 : name.length ≤ 255) (h2 : sname.length ≤ 255) (h3 : qids.length ≤ 8) : (fieldsM 125).flatMap (fieldB ⟨125, tag, code, msize, iounit, count, name, qid, qids, data, sqid, smode, ssize, sname⟩) = layB ⟨125, tag, code, msize, iounit, count, name, qid, qids, data, sqid, smode, ssize, sname⟩ := by
  have hp : partsM 125 = [8] := rfl
  have hf : fieldsM 125 = [115] := rfl
  have e1 : txtB name = le 2 name.length ++ name := by unfold txtB; rw [if_pos h1]
  have e2 : txtB sname = le 2 sname.length ++ sname := by unfold txtB; rw [if_pos h2]
  have e3 : qidsB qids = le 2 qids.length ++ qids.flatMap qidB := by unfold qidsB; rw [if_pos h3]
  simp [hf, layB, layS, lay0, hp, stepT, partB, partT, fieldB, statB, e1, e2, e3]
theorem body_127 (tag code msize iounit count : Int) (name : List UInt8) (qid : QidV) (qids : List QidV) (data : List UInt8) (sqid : QidV) (smode ssize : Int) (sname : List UInt8) (h1 : name.length ≤ 255) (h2 : sname.length ≤ 255) (h3 : qids.length ≤ 8) : (fieldsM 127).flatMap (fieldB ⟨127, tag, code, msize, iounit, count, name, qid, qids, data, sqid, smode, ssize, sname⟩) = layB ⟨127, tag, code, msize, iounit, count, name, qid, qids, data, sqid, smode, ssize, sname⟩ := by
  have hp : partsM 127 = [] := rfl
  have hf : fieldsM 127 = [45] := rfl
  have e1 : txtB name = le 2 name.length ++ name := by unfold txtB; rw [if_pos h1]
  have e2 : txtB sname = le 2 sname.length ++ sname := by unfold txtB; rw [if_pos h2]
  have e3 : qidsB qids = le 2 qids.length ++ qids.flatMap qidB := by unfold qidsB; rw [if_pos h3]
  simp [hf, layB, layS, lay0, hp, stepT, partB, partT, fieldB, statB, e1, e2, e3]
theorem body_is (t : TellV) (h : layOk t = true) : (fieldsM t.kind).flatMap (fieldB t) = layB t ∧ t.name.length ≤ 255 ∧ t.sname.length ≤ 255 := by
  have hk := (layOk_kind t h).1
  have hm := lay_may t h
  simp only [mayT, Bool.and_eq_true, decide_eq_true_eq] at hm
  obtain ⟨⟨⟨⟨⟨⟨⟨⟨⟨⟨⟨⟨⟨⟨⟨h0, h1⟩, h2⟩, h3⟩, h4⟩, h5⟩, h6⟩, h7⟩, h8⟩, h9⟩, h10⟩, h11⟩, h12⟩, h13⟩, h14⟩, h15⟩ := hm
  refine ⟨?_, h6, h7⟩
  obtain ⟨kind, tag, code, msize, iounit, count, name, qid, qids, data, sqid, smode, ssize, sname⟩ := t
  simp only [kindsW, List.mem_cons, List.not_mem_nil, or_false] at hk
  rcases hk with rfl | rfl | rfl | rfl | rfl | rfl | rfl | rfl | rfl | rfl | rfl | rfl | rfl
  · exact body_101 tag code msize iounit count name qid qids data sqid smode ssize sname h6 h7 h4
  · exact body_105 tag code msize iounit count name qid qids data sqid smode ssize sname h6 h7 h4
  · exact body_107 tag code msize iounit count name qid qids data sqid smode ssize sname h6 h7 h4
  · exact body_109 tag code msize iounit count name qid qids data sqid smode ssize sname h6 h7 h4
  · exact body_111 tag code msize iounit count name qid qids data sqid smode ssize sname h6 h7 h4
  · exact body_113 tag code msize iounit count name qid qids data sqid smode ssize sname h6 h7 h4
  · exact body_115 tag code msize iounit count name qid qids data sqid smode ssize sname h6 h7 h4
  · exact body_117 tag code msize iounit count name qid qids data sqid smode ssize sname h6 h7 h4
  · exact body_119 tag code msize iounit count name qid qids data sqid smode ssize sname h6 h7 h4
  · exact body_121 tag code msize iounit count name qid qids data sqid smode ssize sname h6 h7 h4
  · exact body_123 tag code msize iounit count name qid qids data sqid smode ssize sname h6 h7 h4
  · exact body_125 tag code msize iounit count name qid qids data sqid smode ssize sname h6 h7 h4
  · exact body_127 tag code msize iounit count name qid qids data sqid smode ssize sname h6 h7 h4

/-- A struct loaded whose cells are known; the operation may have a guard. -/
theorem wpList_loadMidM {P : Program} {w : World} {ops : Array Oper} {rest : List Oper} {o : Oper} {a : Act} {Q : Exit → Act → World → Prop} (hw : Region.wanted o (yielded ops a.tmps) = true) (x : Operand) {t : TypeId} (ho : o.op = .load t x)
    {g off : Nat} {xs : List Value} (hx : a.eval x = .pointer (some ⟨g, off, none⟩)) (hc : ∀ k v, xs[k]? = some v → w.cell? ⟨g, off + k, none⟩ = some v) (hs : (P.info? t).map (·.size) = some xs.length) (ha : ∀ w, (isAgg t).run P w = .ok true w)
    (k : wpList P ops Q rest (a.put o.dst (.agg xs.toArray)) w) : wpList P ops Q (o :: rest) a w :=
  wpList_step fun K hK => by
    rw [if_pos hw]
    unfold Oper.wp execOp
    simp only [ho, hx, run_loadMid hc hs ha, Sem.run_bind, Result.andThen_ok, Sem.run_pure]
    exact hK _ _ k
/-- Three replies. -/
structure T3 (w : World) (g : Nat) (rs : List (List Value)) : Prop where
  rd : RdR w w.heap.size 18 (some ⟨g, 0, none⟩) 3 rs
  each : ∀ (i : Nat), i < 3 → ∃ x Aq nq cq Ad nd cd, rs[i]? = some (tellC x Aq nq cq Ad nd cd) ∧ TellRd w x Aq nq cq Ad nd cd
theorem T3.up {w w' : World} {g : Nat} {rs : List (List Value)} (h : T3 w g rs) (k : Below w.heap.size w w') : T3 w' g rs :=
  ⟨h.rd.up k, fun i hi => by obtain ⟨x, Aq, nq, cq, Ad, nd, cd, h1, h2⟩ := h.each i hi; exact ⟨x, Aq, nq, cq, Ad, nd, cd, h1, h2.up k⟩⟩
def SmJ (w : World) (i : Value) (wr : World) : Prop := ∃ j : Nat, j ≤ 3 ∧ i = .int .i64 j ∧ Below w.heap.size w wr
/-- The good reply's, only read. -/
theorem good_rd {w w' : World} {t x : TellV} {Aq : Option Addr} {nq cq : Nat} {Ad : Option Addr} {nd cd : Nat} (hx : x = goodT t) (hq : OwR w' w.heap.size 23 3 Aq nq cq (x.qids.map qidC)) (hd : OwB w' w.heap.size Ad nd cd x.data) : TellRd w' x Aq nq cq Ad nd cd := by
  have hl := goodT_lens t
  rw [← hx] at hl
  have h1 := hq.len
  have h2 := hd.len
  simp only [List.length_map] at h1
  exact ⟨hq.rd, hd.rd, by omega, by omega, by omega, by omega⟩

theorem tMay_rd (t : TellV) (Aq : Option Addr) (nq cq : Nat) (Ad : Option Addr) (nd cd : Nat) (w : World) (h : TellRd w t Aq nq cq Ad nd cd) :
    Calls Try.prog 18 #[.agg (tellC t Aq nq cq Ad nd cd).toArray] w fun e w' => e = .returned (.bool (layOk t)) ∧ Below w.heap.size w w' := by
  refine (tMay_any t.kind t.tag t.code t.msize t.iounit t.count t.name t.qid.dir t.qid.ver t.qid.path t.qids t.data t.sqid.dir t.sqid.ver t.sqid.path t.smode t.ssize t.sname Aq nq cq Ad nd cd w h.q h.d (by have := h.nq_le; omega) (by have := h.nd_le; omega) (by have := h.name; omega) (by have := h.sname; omega)).mono ?_
  rintro e w' ⟨ok, hok, rfl, hb⟩
  exact ⟨by rw [hok.out], hb⟩
theorem tWrite_rd (t : TellV) (Aq : Option Addr) (nq cq : Nat) (Ad : Option Addr) (nd cd : Nat) (w : World) (h : TellRd w t Aq nq cq Ad nd cd) :
    Calls Try.prog 17 #[.agg (tellC t Aq nq cq Ad nd cd).toArray] w (WriteT t w) :=
  tWrite_any t.kind t.tag t.code t.msize t.iounit t.count t.name t.qid.dir t.qid.ver t.qid.path t.qids t.data t.sqid.dir t.sqid.ver t.sqid.path t.smode t.ssize t.sname Aq nq cq Ad nd cd w h.q h.d (by have := h.nq_le; omega) (by have := h.nd_le; omega) (by have := h.name; omega) (by have := h.sname; omega) (by have := h.nd_le; omega)
theorem tBytes_ok (x : TellV) (hok : layOk x = true) (Aq : Option Addr) (nq cq : Nat) (Ad : Option Addr) (nd cd : Nat) (w : World) (h : TellRd w x Aq nq cq Ad nd cd) :
    Calls Try.prog 19 #[.agg (tellC x Aq nq cq Ad nd cd).toArray] w (LayPost w (packL (n8 x.kind) (n16 x.tag) (layB x))) := by
  obtain ⟨h1, h2, h3⟩ := body_is x hok
  obtain ⟨hk, ht⟩ := layOk_kind x hok
  have hk2 : 0 ≤ x.kind ∧ x.kind ≤ 127 := by
    have : ∀ k ∈ kindsW, 0 ≤ k ∧ k ≤ 127 := by decide
    exact this _ hk
  rw [inB_def] at ht
  have := tBytes_any x (n8 x.kind) (n16 x.tag) (by unfold n8; omega) (by unfold n16; omega) (n8_le _) (n16_le _) Aq nq cq Ad nd cd w ⟨h, h2, h3⟩
  rw [h1] at this
  exact this

set_option maxRecDepth 200000 in
set_option maxHeartbeats 8000000 in
theorem tellMay_walk (ta : TellV) (Aa : Option Addr) (na ca : Nat) (Da : Option Addr) (da ea : Nat) (which n : Int) (s : List UInt8) (w : World)
    (hoka : TellOk w w.heap.size ta Aa na ca Da da ea) (b2 : -9223372036854775808 ≤ which) (t2 : which ≤ 9223372036854775807) (b3 : -9223372036854775808 ≤ n) (t3 : n ≤ 9223372036854775807) (hs : s.length ≤ 9223372036854775807) :
    Calls Try.prog 4 #[.agg (tellC ta Aa na ca Da da ea).toArray, .int .i64 which, .int .i64 n, .string (st s)] w fun e w' => e = .returned (.bool true) ∧ Below w.heap.size w w' := by
  have hA0 := Blk.new w 29 (tellC ta Aa na ca Da da ea)
  obtain ⟨W2, hW2⟩ : ∃ x, x = w.alloc (.cells (tellC ta Aa na ca Da da ea).toArray 29) := ⟨_, rfl⟩
  have hA2 : Blk W2 w.heap.size 29 (tellC ta Aa na ca Da da ea) := by rw [hW2]; exact hA0
  have hb2 : Below w.heap.size w W2 := by rw [hW2]; exact (Below.refl _ _).alloc (Nat.le_refl _) _
  have HOK := Lib.hid (show TellOk W2 W2.heap.size ta Aa na ca Da da ea from { (hoka.up hb2) with qids := (hoka.qids.below hb2).more hb2.size, data := (hoka.data.below hb2).more hb2.size })
  have HA := Lib.hid hA2
  have HB2 := Lib.hid hb2
  have HW2 := Lib.hid hW2
  clear hA0 hA2 hb2 hW2 hoka
  go_enter Try.func4, Try.ntmps4
  go_upto_region 1 with fail
  rw [← HW2.out]
  go_wp2_with (refine wpList_loadBlk rfl (.tmp 4) rfl rfl (by kernel_rfl) tellT_agg HA.out ?_; simp only [Act.put, List.setIfInBounds_toArray, List.set_cons_succ, List.set_cons_zero])
  refine (few18_ok ta Aa na ca Da da ea _ HOK.out).mono ?_
  rintro e w3 ⟨x, Xq, mq, dq, Xd, md, dd, rfl, hxo, hxr, hb3⟩
  have hXa : Blk (w3.alloc (.cells #[.int .i64 0, .int .i64 0, .int .i64 0, .int .i64 0, .int .i64 0, .int .i64 0, .string ⟨#[]⟩, .bool false, .int .i64 0, .int .i64 0, .slice none 0 0, .slice none 0 0, .bool false, .int .i64 0, .int .i64 0, .int .i64 0, .int .i64 0, .string ⟨#[]⟩] 29)) w3.heap.size 29 [.int .i64 0, .int .i64 0, .int .i64 0, .int .i64 0, .int .i64 0, .int .i64 0, .string ByteArray.empty, .bool false, .int .i64 0, .int .i64 0, .slice none 0 0, .slice none 0 0, .bool false, .int .i64 0, .int .i64 0, .int .i64 0, .int .i64 0, .string ByteArray.empty] := Blk.new w3 29 [.int .i64 0, .int .i64 0, .int .i64 0, .int .i64 0, .int .i64 0, .int .i64 0, .string ByteArray.empty, .bool false, .int .i64 0, .int .i64 0, .slice none 0 0, .slice none 0 0, .bool false, .int .i64 0, .int .i64 0, .int .i64 0, .int .i64 0, .string ByteArray.empty]
  have hX := hXa.setRow (tellC x Xq mq dq Xd md dd)
  have hk4 := keeps_setRow (w3.alloc (.cells #[.int .i64 0, .int .i64 0, .int .i64 0, .int .i64 0, .int .i64 0, .int .i64 0, .string ⟨#[]⟩, .bool false, .int .i64 0, .int .i64 0, .slice none 0 0, .slice none 0 0, .bool false, .int .i64 0, .int .i64 0, .int .i64 0, .int .i64 0, .string ⟨#[]⟩] 29)) (g := w3.heap.size) (tellC x Xq mq dq Xd md dd).toArray
  have hb34 : Below w3.heap.size w3 ((w3.alloc (.cells #[.int .i64 0, .int .i64 0, .int .i64 0, .int .i64 0, .int .i64 0, .int .i64 0, .string ⟨#[]⟩, .bool false, .int .i64 0, .int .i64 0, .slice none 0 0, .slice none 0 0, .bool false, .int .i64 0, .int .i64 0, .int .i64 0, .int .i64 0, .string ⟨#[]⟩] 29)).setRow w3.heap.size (tellC x Xq mq dq Xd md dd).toArray) := ((Below.refl _ _).alloc (Nat.le_refl _) _).trans (hk4.is (Nat.le_refl _) (by simp))
  have h4 := hxr.up hb34
  have ho4 : TellOk ((w3.alloc (.cells #[.int .i64 0, .int .i64 0, .int .i64 0, .int .i64 0, .int .i64 0, .int .i64 0, .string ⟨#[]⟩, .bool false, .int .i64 0, .int .i64 0, .slice none 0 0, .slice none 0 0, .bool false, .int .i64 0, .int .i64 0, .int .i64 0, .int .i64 0, .string ⟨#[]⟩] 29)).setRow w3.heap.size (tellC x Xq mq dq Xd md dd).toArray) ((w3.alloc (.cells #[.int .i64 0, .int .i64 0, .int .i64 0, .int .i64 0, .int .i64 0, .int .i64 0, .string ⟨#[]⟩, .bool false, .int .i64 0, .int .i64 0, .slice none 0 0, .slice none 0 0, .bool false, .int .i64 0, .int .i64 0, .int .i64 0, .int .i64 0, .string ⟨#[]⟩] 29)).setRow w3.heap.size (tellC x Xq mq dq Xd md dd).toArray).heap.size x Xq mq dq Xd md dd := { (hxo.up hb34) with qids := (hxo.qids.below hb34).more hb34.size, data := (hxo.data.below hb34).more hb34.size }
  have hb4 := HB2.out.trans ((Up.trans hb3 hb34).mono HB2.out.size)
  clear hb3 hk4 hxo hxr hb34
  go_upto_region 2 with (refine wpList_storeBlk rfl (.tmp 9) (.tmp 16) rfl rfl (tellC x Xq mq dq Xd md dd) rfl rfl (by kernel_rfl) hXa rfl (tellC_ones x Xq mq dq Xd md dd) ?_)
  obtain ⟨gX, hgX⟩ : ∃ g, g = w3.heap.size := ⟨_, rfl⟩
  generalize (w3.alloc (.cells #[.int .i64 0, .int .i64 0, .int .i64 0, .int .i64 0, .int .i64 0, .int .i64 0, .string ⟨#[]⟩, .bool false, .int .i64 0, .int .i64 0, .slice none 0 0, .slice none 0 0, .bool false, .int .i64 0, .int .i64 0, .int .i64 0, .int .i64 0, .string ⟨#[]⟩] 29)).setRow w3.heap.size (tellC x Xq mq dq Xd md dd).toArray = w4 at hX h4 ho4 hb4 ⊢
  rw [← hgX] at hX ⊢
  have HX := Lib.hid hX.drew
  have H0 := Lib.hid h4.drew
  have HO := Lib.hid (show TellOk w4.drew w4.drew.heap.size x Xq mq dq Xd md dd from ho4.up ((Below.refl _ _).drew))
  have HB4 := Lib.hid hb4.drew
  clear hX h4 ho4 hb4 hXa hgX
  refine wp_region_tq NoG (.t 4 (.t 5 (.t 6 (.q 0 (.q 1 (.q 3 (.s 2 (.s 7 (.s 8 (.t 9 .nil)))))))))) (by kernel_rfl) (by kernel_rfl) ?_
  repeat (refine tq_take (by simp only [List.getElem?_toArray, List.getElem?_cons_succ, List.getElem?_cons_zero]; exact rfl) ?_; go_big_quiet_step (fail); refine wpQuiet_nil ?_)
  have hca : ∀ W, Keeps NoG w4.drew W → ∀ k v, (tellC x Xq mq dq Xd md dd)[k]? = some v → W.cell? ⟨gX, 0 + k, none⟩ = some v := fun W hW k v hk => by rw [Nat.zero_add]; exact (HX.out.up hW.below).cell k v hk
  refine tq_valK (d := some 17) (by simp only [List.getElem?_toArray, List.getElem?_cons_succ, List.getElem?_cons_zero]; exact rfl) rfl rfl (.agg (tellC x Xq mq dq Xd md dd).toArray) (fun W hW => run_load_op (.tmp 9) rfl rfl (run_loadMid (xs := tellC x Xq mq dq Xd md dd) (hca W hW) (by kernel_rfl) tellT_agg)) ?_
  simp only [Act.put, List.setIfInBounds_toArray, List.set_cons_succ, List.set_cons_zero]
  refine tq_valK (d := some 18) (by simp only [List.getElem?_toArray, List.getElem?_cons_succ, List.getElem?_cons_zero]; exact rfl) rfl rfl (.agg (tellC x Xq mq dq Xd md dd).toArray) (fun W hW => run_load_op (.tmp 9) rfl rfl (run_loadMid (xs := tellC x Xq mq dq Xd md dd) (hca W hW) (by kernel_rfl) tellT_agg)) ?_
  simp only [Act.put, List.setIfInBounds_toArray, List.set_cons_succ, List.set_cons_zero]
  refine tq_valK (d := some 20) (by simp only [List.getElem?_toArray, List.getElem?_cons_succ, List.getElem?_cons_zero]; exact rfl) rfl rfl (.agg (tellC x Xq mq dq Xd md dd).toArray) (fun W hW => run_load_op (.tmp 9) rfl rfl (run_loadMid (xs := tellC x Xq mq dq Xd md dd) (hca W hW) (by kernel_rfl) tellT_agg)) ?_
  simp only [Act.put, List.setIfInBounds_toArray, List.set_cons_succ, List.set_cons_zero]
  clear hca
  refine tq_solo (by simp only [List.getElem?_toArray, List.getElem?_cons_succ, List.getElem?_cons_zero]; exact rfl) ?_
  go_wp2_with fail
  refine (goodT_ok x Xq mq dq Xd md dd _ HO.out).mono ?_
  rintro e w5 ⟨x1, Xb, mb, pb, Yb, qb, rb, hx1, rfl, hq1, hd1, hb5⟩
  have h1 := good_rd hx1.out hq1 hd1
  have HB5 := Lib.hid (HB4.out.trans (hb5.mono HB4.out.size))
  have H0 := Lib.hid (H0.out.up hb5)
  have H1 := Lib.hid h1
  have HO := Lib.hid (show TellOk w5 w5.heap.size x Xq mq dq Xd md dd from { (HO.out.up hb5) with qids := (HO.out.qids.below hb5).more hb5.size, data := (HO.out.data.below hb5).more hb5.size })
  clear hq1 hd1 h1 hx1
  go_wp2
  refine Solo.up hb5 ?_
  clear hb5
  refine tq_solo (by simp only [List.getElem?_toArray, List.getElem?_cons_succ, List.getElem?_cons_zero]; exact rfl) ?_
  go_wp2_with fail
  refine (odd_ok x Xq mq dq Xd md dd which n s _ HO.out ⟨b2, t2⟩ hs).mono ?_
  rintro e w6 ⟨x2, Xc, mc, pc, Yc, qc, rc, rfl, h2, hb6⟩
  have HB6 := Lib.hid (HB5.out.trans (hb6.mono HB5.out.size))
  have H0 := Lib.hid (H0.out.up hb6)
  have H1 := Lib.hid (H1.out.up hb6)
  have H2 := Lib.hid h2
  clear h2
  go_wp2
  refine Solo.up hb6 ?_
  clear hb6
  refine tq_solo (by simp only [List.getElem?_toArray, List.getElem?_cons_succ, List.getElem?_cons_zero]; exact rfl) ?_
  go_wp2_with (refine wpList_buildRows3 tellsElem rfl (.tmp 17) (.tmp 19) (.tmp 24) rfl (tellC x Xq mq dq Xd md dd) (tellC x1 Xb mb pb Yb qb rb) (tellC x2 Xc mc pc Yc qc rc) rfl rfl rfl rfl rfl rfl (by omega) ?_; intro g W6 hrd6 hb6; simp only [Act.put, List.setIfInBounds_toArray, List.set_cons_succ, List.set_cons_zero])
  have ht6 : T3 W6 g [tellC x Xq mq dq Xd md dd, tellC x1 Xb mb pb Yb qb rb, tellC x2 Xc mc pc Yc qc rc] := by
    refine ⟨hrd6, fun i hi => ?_⟩
    rcases (by omega : i = 0 ∨ i = 1 ∨ i = 2) with rfl | rfl | rfl
    · exact ⟨x, Xq, mq, dq, Xd, md, dd, rfl, H0.out.up hb6⟩
    · exact ⟨x1, Xb, mb, pb, Yb, qb, rb, rfl, H1.out.up hb6⟩
    · exact ⟨x2, Xc, mc, pc, Yc, qc, rc, rfl, H2.out.up hb6⟩
  have HB7 := Lib.hid (HB6.out.trans (hb6.mono HB6.out.size))
  generalize [tellC x Xq mq dq Xd md dd, tellC x1 Xb mb pb Yb qb rb, tellC x2 Xc mc pc Yc qc rc] = rs at ht6
  have HT := Lib.hid ht6
  refine Solo.up hb6 ?_
  clear hrd6 ht6 H0 H1 H2 hb6
  repeat (refine tq_take (by simp only [List.getElem?_toArray, List.getElem?_cons_succ, List.getElem?_cons_zero]; exact rfl) ?_; go_big_quiet_step (fail); refine wpQuiet_nil ?_)
  refine tq_end ?_
  go_wp2
  go_loopw [11] (fun i wr => SmJ W6 i wr) (fun i _ => 3 - (intOf i).toNat)
  case atStart => exact ⟨0, by omega, rfl, Below.refl _ _⟩
  case round =>
    obtain ⟨j, hj, rfl, hbr⟩ := hrel
    have HBR := Lib.hid hbr
    clear hbr
    by_cases hlt : j < 3
    · have j1 : (j : Int) < 3 := by omega
      have j0 : (0 : Int) ≤ j := by omega
      obtain ⟨y, Aq, nq, cq, Ad, nd, cd, hy, hyr⟩ := HT.out.each j hlt
      obtain ⟨bb, oo, hAA, hlt1, hcc⟩ := HT.out.rd.2.2 (by omega)
      injection hAA with hAA
      injection hAA with h1 h2
      subst h1 h2
      have hcx : ∀ W, Below W6.heap.size W6 W → ∀ i v, (tellC y Aq nq cq Ad nd cd)[i]? = some v → W.cell? ⟨g, j * 18 + i, none⟩ = some v := fun W hW i v hv => (hW.cell (p := ⟨g, j * 18 + i, none⟩) hlt1).trans (by have := hcc j i _ v hy hv; rwa [Nat.zero_add] at this)
      have HCX := Lib.hid hcx
      have HY := Lib.hid hyr
      clear hcc hy hyr hlt1 hcx
      go_wp2_with (refine wpList_loadMidM rfl (.tmp 32) rfl (xs := tellC y Aq nq cq Ad nd cd) rfl (HCX.out _ HBR.out) (by kernel_rfl) tellT_agg ?_; simp only [Act.put, List.setIfInBounds_toArray, List.set_cons_succ, List.set_cons_zero])
      refine (refMay_any y Aq nq cq Ad nd cd _ (HY.out.up HBR.out)).mono ?_
      rintro e W7 ⟨rfl, hb7⟩
      rw [may_is]
      have HB7' := Lib.hid (Up.trans HBR.out hb7)
      clear hb7
      go_wp2_with (refine wpList_loadMidM rfl (.tmp 38) rfl (xs := tellC y Aq nq cq Ad nd cd) rfl (HCX.out _ HB7'.out) (by kernel_rfl) tellT_agg ?_; simp only [Act.put, List.setIfInBounds_toArray, List.set_cons_succ, List.set_cons_zero])
      refine (tWrite_rd y Aq nq cq Ad nd cd _ (HY.out.up HB7'.out)).mono ?_
      rintro e W8 ⟨B, nB, cB, l, er, hl, her, rfl, hown, hb8⟩
      have HB8 := Lib.hid (Up.trans HB7'.out hb8)
      have HOW := Lib.hid hown
      clear hb8 hown
      go_wp2_with (refine wpList_loadMidM rfl (.tmp 45) rfl (xs := tellC y Aq nq cq Ad nd cd) rfl (HCX.out _ HB8.out) (by kernel_rfl) tellT_agg ?_; simp only [Act.put, List.setIfInBounds_toArray, List.set_cons_succ, List.set_cons_zero])
      refine (tMay_rd y Aq nq cq Ad nd cd _ (HY.out.up HB8.out)).mono ?_
      rintro e W9 ⟨rfl, hb9⟩
      have HB9 := Lib.hid (Up.trans HB8.out hb9)
      have HOW9 := Lib.hid (HOW.out.up hb9)
      clear hb9
      rcases hok : layOk y with _ | _
      · have hl0 : l = [] := by rw [hl.out, hok]; rfl
        have he1 : er = 1 := by rw [her.out, hok]; rfl
        have hn0 : nB = 0 := by rw [← HOW9.out.len, hl0]; rfl
        subst he1
        subst hn0
        clear hl her hl0 hok
        go_wp2
        refine wp_region_tq NoG (.t 0 (.t 1 (.t 2 (.t 3 (.t 4 (.t 5 (.t 6 (.q 7 (.s 8 (.t 9 (.t 10 (.t 11 .nil)))))))))))) (by kernel_rfl) (by kernel_rfl) ?_
        repeat (refine tq_take (by simp only [List.getElem?_toArray, List.getElem?_cons_succ, List.getElem?_cons_zero]; exact rfl) ?_; go_big_quiet_step (fail); refine wpQuiet_nil ?_)
        refine tq_skip (d := some 76) (by simp only [List.getElem?_toArray, List.getElem?_cons_succ, List.getElem?_cons_zero]; exact rfl) rfl rfl ?_
        simp only [Act.put, List.setIfInBounds_toArray, List.set_cons_succ, List.set_cons_zero]
        refine tq_solo (by simp only [List.getElem?_toArray, List.getElem?_cons_succ, List.getElem?_cons_zero]; exact rfl) ?_
        go_wp2
        refine Solo.mk (Keeps.refl _ _) ?_
        repeat (refine tq_take (by simp only [List.getElem?_toArray, List.getElem?_cons_succ, List.getElem?_cons_zero]; exact rfl) ?_; go_big_quiet_step (fail); refine wpQuiet_nil ?_)
        refine tq_end ?_
        go_wp2
        go_roundw
        case rel => exact ⟨j + 1, by omega, by go_num, HB9.out.drew⟩
        case measure => simp [intOf]; omega
      · have hl1 : l = packL (n8 y.kind) (n16 y.tag) (layB y) := by rw [hl.out, hok]; rfl
        have he0 : er = 0 := by rw [her.out, hok]; rfl
        subst he0
        have HL := Lib.hid hl1
        have HOKY := Lib.hid hok
        clear hl her hl1 hok
        go_wp2
        refine wp_region_tq NoG (.t 0 (.t 1 (.t 2 (.t 3 (.t 4 (.t 5 (.t 6 (.q 7 (.s 8 (.t 9 (.t 10 (.t 11 .nil)))))))))))) (by kernel_rfl) (by kernel_rfl) ?_
        have hst1 := str_abv (w := W9.drew) (c := cB) HOW9.out.drew.rd
        repeat (refine tq_take (by simp only [List.getElem?_toArray, List.getElem?_cons_succ, List.getElem?_cons_zero]; exact rfl) ?_; go_big_quiet_step (fail); refine wpQuiet_nil ?_)
        refine tq_valK (d := some 76) (by simp only [List.getElem?_toArray, List.getElem?_cons_succ, List.getElem?_cons_zero]; exact rfl) rfl rfl (.agg (tellC y Aq nq cq Ad nd cd).toArray) (fun W hW => run_load_op (.tmp 75) rfl rfl (run_loadMid (xs := tellC y Aq nq cq Ad nd cd) (HCX.out W (Up.trans HB9.out.drew hW.below)) (by kernel_rfl) tellT_agg)) ?_
        simp only [Act.put, List.setIfInBounds_toArray, List.set_cons_succ, List.set_cons_zero]
        clear hst1
        refine tq_solo (by simp only [List.getElem?_toArray, List.getElem?_cons_succ, List.getElem?_cons_zero]; exact rfl) ?_
        go_wp2_with fail
        refine (tBytes_ok y HOKY.out Aq nq cq Ad nd cd _ (HY.out.up HB9.out.drew)).mono ?_
        rintro e W10 ⟨C, nC, cC, l2, hl2, rfl, hown2, hb10⟩
        obtain rfl : l2 = l := by rw [hl2.out, HL.out]
        have hst2 := str_abv (w := W10) (c := cC) hown2.rd
        have HB10 := Lib.hid (Up.trans HB9.out.drew hb10)
        go_wp2
        refine Solo.up hb10 ?_
        clear hb10 hown2
        repeat (refine tq_take (by simp only [List.getElem?_toArray, List.getElem?_cons_succ, List.getElem?_cons_zero]; exact rfl) ?_; go_big_quiet_step (fail); refine wpQuiet_nil ?_)
        refine tq_end ?_
        clear hst2
        go_wp2
        go_roundw
        case rel => exact ⟨j + 1, by omega, by go_num, HB10.out⟩
        case measure => simp [intOf]; omega
    · obtain rfl : j = 3 := by omega
      go_wp2_with fail
      refine (lives18_any _).mono ?_
      rintro e W9 ⟨rfl, hb9⟩
      have HB9 := Lib.hid (HB7.out.trans ((Up.trans HBR.out hb9).mono HB7.out.size))
      clear hb9
      go_wp2
      go_ret
      exact ⟨rfl, HB9.out⟩
end Go.Proofs.Ytoplkglnjgllnaa
