/-
  Layer 17's helper Good.
-/
import Derived.Test.YtgogdgpdkkbfhaaAskC
namespace Go.Proofs.Ytgogdgpdkkbfhaa
open Go.RowKit
set_option linter.unusedVariables false
set_option linter.unusedSimpArgs false

theorem strsElemA : Elem Try.prog 29 9 (.string ByteArray.empty) 1 16 := elem_of Try.underlying29 (by kernel_rfl) rfl (by omega)
/-- A request made of any, before what is laid alone. -/
def goodU (a : AskV) : AskV :=
  { kind := kindA a.kind, tag := up0 a.tag % 65536, fid := up0 a.fid % 4294967296, nfid := up0 a.nfid % 4294967296, otag := up0 a.otag % 65536, msize := up0 a.msize % 4294967296, mode := up0 a.mode % 256, perm := up0 a.perm % 4294967296, off := up0 a.off % 4611686018427387905, count := up0 a.count % 4294967296, size := up0 a.size % 4294967296 - 1, name := a.name.take 40, names := (a.names.take 8).map (·.take 40), data := a.data.take 30 }
def goodV (a : AskV) : AskV := ownV (goodU a)
/-- The numbers' bounds. -/
def AskIn (a : AskV) : Prop := ∀ n ∈ [a.kind, a.tag, a.fid, a.nfid, a.otag, a.msize, a.mode, a.perm, a.off, a.count, a.size], -9223372036854775808 ≤ n ∧ n ≤ 9223372036854775807
def GoodPost (a : AskV) (w : World) (e : Ending) (w' : World) : Prop :=
  ∃ x An nn cn Ad nd cd, Hid (x = goodV a) ∧ e = .returned (.agg (askC x An nn cn Ad nd cd).toArray) ∧ OwV w' w.heap.size 9 An nn cn (sv x.names) ∧ OwB w' w.heap.size Ad nd cd x.data ∧ Below w.heap.size w w'

theorem good_names (a : AskV) : (goodV a).names.length ≤ 8 := by
  simp only [goodV, ownV]
  split
  · simp [goodU]; omega
  · simp
theorem good_data (a : AskV) : (goodV a).data.length ≤ 30 := by
  simp only [goodV, ownV]
  split
  · simp [goodU]; omega
  · simp

theorem Blk.abv {w : World} {g : Nat} {t : TypeId} {cs : List Value} (h : Blk w g t cs) (i : Nat) (v : Value) (hv : cs[i]? = some v) : ∀ p : Abv NoG w, p.val.cell? ⟨g, i, none⟩ = some v :=
  fun p => (h.up p.below).cell i v hv

/-- The loop over the names. -/
def GnRel (gX gA : Nat) (names : List (List UInt8)) (C : Value → List Value) (aC : List Value) (wc : World) (i : Value) (wr : World) : Prop :=
  ∃ (j c : Nat) (A : Option Addr) (ls : List (List UInt8)), j ≤ names.length ∧ j ≤ 8 ∧ i = .int .i64 j ∧ Hid (ls = (names.take j).map (·.take 40)) ∧
    Blk wr gX 32 (C (.slice A j c)) ∧ Blk wr gA 32 aC ∧ OwV wr (gX + 1) 9 A j c (sv ls) ∧ Keeps (From gX) wc wr

/-- Behind the literal. -/
def GcRel (v0 v1 v2 v3 v4 v5 v6 v7 : Int) (W : World) (x : Value) (wx : World) : Prop :=
  ∃ gX : Nat, x = .pointer (some ⟨gX, 0, none⟩) ∧ W.heap.size ≤ gX ∧ Blk wx gX 32 [.int .i64 v0, .int .i64 v1, .int .i64 v2, .int .i64 v3, .int .i64 v4, .int .i64 v5, .int .i64 v6, .int .i64 v7, .int .i64 0, .int .i64 0, .string ByteArray.empty, .slice none 0 0, .int .i64 0, .slice none 0 0] ∧ Below W.heap.size W wx

set_option maxRecDepth 100000 in
set_option maxHeartbeats 8000000 in
theorem good_any (kind tag fid nfid otag msize mode perm off count size : Int) (name : List UInt8) (names : List (List UInt8)) (data : List UInt8) (An : Option Addr) (nn cn : Nat) (Ad : Option Addr) (nd cd : Nat) (w : World)
    (hbkind : -9223372036854775808 ≤ kind ∧ kind ≤ 9223372036854775807) (hbtag : -9223372036854775808 ≤ tag ∧ tag ≤ 9223372036854775807) (hbfid : -9223372036854775808 ≤ fid ∧ fid ≤ 9223372036854775807) (hbnfid : -9223372036854775808 ≤ nfid ∧ nfid ≤ 9223372036854775807) (hbotag : -9223372036854775808 ≤ otag ∧ otag ≤ 9223372036854775807) (hbmsize : -9223372036854775808 ≤ msize ∧ msize ≤ 9223372036854775807) (hbmode : -9223372036854775808 ≤ mode ∧ mode ≤ 9223372036854775807) (hbperm : -9223372036854775808 ≤ perm ∧ perm ≤ 9223372036854775807) (hboff : -9223372036854775808 ≤ off ∧ off ≤ 9223372036854775807) (hbcount : -9223372036854775808 ≤ count ∧ count ≤ 9223372036854775807) (hbsize : -9223372036854775808 ≤ size ∧ size ≤ 9223372036854775807)
    (hnl : name.length ≤ 9223372036854775807) (hN : RdV w w.heap.size An nn (sv names)) (hNl : ∀ l ∈ names, l.length ≤ 9223372036854775807) (hNn : nn ≤ 9223372036854775807) (hD : RdB w w.heap.size Ad nd data) (hDc : nd ≤ cd) (hDm : cd ≤ maxLen) :
    Calls Try.prog 12 #[.agg #[.int .i64 kind, .int .i64 tag, .int .i64 fid, .int .i64 nfid, .int .i64 otag, .int .i64 msize, .int .i64 mode, .int .i64 perm, .int .i64 off, .int .i64 count, .string (st name), .slice An nn cn, .int .i64 size, .slice Ad nd cd]] w (GoodPost ⟨kind, tag, fid, nfid, otag, msize, mode, perm, off, count, size, name, names, data⟩ w) := by
  obtain ⟨v0, hv0⟩ : ∃ v, Hid (v = kindA kind) := ⟨_, Lib.hid rfl⟩
  obtain ⟨v1, hv1⟩ : ∃ v, Hid (v = up0 tag % 65536) := ⟨_, Lib.hid rfl⟩
  obtain ⟨v2, hv2⟩ : ∃ v, Hid (v = up0 fid % 4294967296) := ⟨_, Lib.hid rfl⟩
  obtain ⟨v3, hv3⟩ : ∃ v, Hid (v = up0 nfid % 4294967296) := ⟨_, Lib.hid rfl⟩
  obtain ⟨v4, hv4⟩ : ∃ v, Hid (v = up0 otag % 65536) := ⟨_, Lib.hid rfl⟩
  obtain ⟨v5, hv5⟩ : ∃ v, Hid (v = up0 msize % 4294967296) := ⟨_, Lib.hid rfl⟩
  obtain ⟨v6, hv6⟩ : ∃ v, Hid (v = up0 mode % 256) := ⟨_, Lib.hid rfl⟩
  obtain ⟨v7, hv7⟩ : ∃ v, Hid (v = up0 perm % 4294967296) := ⟨_, Lib.hid rfl⟩
  obtain ⟨v8, hv8⟩ : ∃ v, Hid (v = up0 off % 4611686018427387905) := ⟨_, Lib.hid rfl⟩
  obtain ⟨v9, hv9⟩ : ∃ v, Hid (v = up0 count % 4294967296) := ⟨_, Lib.hid rfl⟩
  obtain ⟨y12, hy12⟩ : ∃ v, Hid (v = up0 size % 4294967296) := ⟨_, Lib.hid rfl⟩
  have hy12b : 0 ≤ y12 ∧ y12 < 4294967296 := by rw [hy12.out]; exact ⟨Int.emod_nonneg _ (by omega), Int.emod_lt_of_pos _ (by omega)⟩
  obtain ⟨nm, hnm⟩ : ∃ v, Hid (v = name.take 40) := ⟨_, Lib.hid rfl⟩
  have hA0 := Blk.new w 32 [.int .i64 kind, .int .i64 tag, .int .i64 fid, .int .i64 nfid, .int .i64 otag, .int .i64 msize, .int .i64 mode, .int .i64 perm, .int .i64 off, .int .i64 count, .string (st name), .slice An nn cn, .int .i64 size, .slice Ad nd cd]
  have hZ0 := Blk.new (w.alloc (.cells #[.int .i64 kind, .int .i64 tag, .int .i64 fid, .int .i64 nfid, .int .i64 otag, .int .i64 msize, .int .i64 mode, .int .i64 perm, .int .i64 off, .int .i64 count, .string (st name), .slice An nn cn, .int .i64 size, .slice Ad nd cd] 32)) 32 [.int .i64 0, .int .i64 0, .int .i64 0, .int .i64 0, .int .i64 0, .int .i64 0, .int .i64 0, .int .i64 0, .int .i64 0, .int .i64 0, .string ByteArray.empty, .slice none 0 0, .int .i64 0, .slice none 0 0]
  obtain ⟨W2, hW2⟩ : ∃ x, x = (w.alloc (.cells #[.int .i64 kind, .int .i64 tag, .int .i64 fid, .int .i64 nfid, .int .i64 otag, .int .i64 msize, .int .i64 mode, .int .i64 perm, .int .i64 off, .int .i64 count, .string (st name), .slice An nn cn, .int .i64 size, .slice Ad nd cd] 32)).alloc (.cells #[.int .i64 0, .int .i64 0, .int .i64 0, .int .i64 0, .int .i64 0, .int .i64 0, .int .i64 0, .int .i64 0, .int .i64 0, .int .i64 0, .string ByteArray.empty, .slice none 0 0, .int .i64 0, .slice none 0 0] 32) := ⟨_, rfl⟩
  have hs : W2.heap.size = w.heap.size + 2 := by rw [hW2]; simp
  have hA2 : Blk W2 w.heap.size 32 [.int .i64 kind, .int .i64 tag, .int .i64 fid, .int .i64 nfid, .int .i64 otag, .int .i64 msize, .int .i64 mode, .int .i64 perm, .int .i64 off, .int .i64 count, .string (st name), .slice An nn cn, .int .i64 size, .slice Ad nd cd] := by rw [hW2]; exact hA0.alloc _
  have hZ2 : Blk W2 (w.heap.size + 1) 32 [.int .i64 0, .int .i64 0, .int .i64 0, .int .i64 0, .int .i64 0, .int .i64 0, .int .i64 0, .int .i64 0, .int .i64 0, .int .i64 0, .string ByteArray.empty, .slice none 0 0, .int .i64 0, .slice none 0 0] := by rw [hW2]; simpa using hZ0
  have hb2 : Below w.heap.size w W2 := by rw [hW2]; exact ((Below.refl _ _).alloc (Nat.le_refl _) _).alloc (by simp) _
  have hW3 : W2 = (w.alloc (.cells #[.int .i64 kind, .int .i64 tag, .int .i64 fid, .int .i64 nfid, .int .i64 otag, .int .i64 msize, .int .i64 mode, .int .i64 perm, .int .i64 off, .int .i64 count, .string (st name), .slice An nn cn, .int .i64 size, .slice Ad nd cd] 32)).alloc (.cells #[.int .i64 0, .int .i64 0, .int .i64 0, .int .i64 0, .int .i64 0, .int .i64 0, .int .i64 0, .int .i64 0, .int .i64 0, .int .i64 0, .string ⟨#[]⟩, .slice none 0 0, .int .i64 0, .slice none 0 0] 32) := hW2
  obtain ⟨gZ, hgZ⟩ : ∃ x, x = w.heap.size + 1 := ⟨_, rfl⟩
  rw [← hgZ] at hZ2
  have gA_lt : w.heap.size < gZ := by omega
  have gZ_lt : gZ < W2.heap.size := by omega
  have HA := Lib.hid hA2
  have HZ := Lib.hid hZ2
  have HB2 := Lib.hid hb2
  have GZ := Lib.hid hgZ
  have HN := Lib.hid hN
  have HD := Lib.hid hD
  have HNl := Lib.hid hNl
  clear hA0 hZ0 hA2 hZ2 hb2 hW2 hgZ hs hN hD hNl
  go_enter Try.func12, Try.ntmps12
  go_upto_region 1 with fail
  rw [← hW3, ← GZ.out]
  clear hW3
  go_cut [3] from 5 (fun x wx => GcRel v0 v1 v2 v3 v4 v5 v6 v7 W2 x wx)
  case first =>
    have hA := HA.out.drew
    have hnot : ¬ From W2.heap.size w.heap.size := fun h => by have h' : W2.heap.size ≤ w.heap.size := h; omega
    refine wp_region_tq (From W2.heap.size) (.t 0 (.t 1 (.t 3 (.t 4 (.t 6 (.t 7 (.t 9 (.t 10 (.t 12 (.t 13 (.t 15 (.t 16 (.t 18 (.t 19 (.t 21 (.t 22 (.b 2 (.q 5 (.q 8 (.q 11 (.q 14 (.q 17 (.q 20 (.q 23 (.q 24 (.s 25 (.s 26 .nil)))))))))) 25 (.s 2 (.q 5 (.q 8 (.q 11 (.q 14 (.q 17 (.q 20 (.q 23 (.q 24 (.s 26 .nil))))))))))))))))))))))))))) (by kernel_rfl) (by kernel_rfl) ?_
    have ka0 := cell_abv (G := From W2.heap.size) (hA.cell 0 _ rfl) hnot
    have ka1 := cell_abv (G := From W2.heap.size) (hA.cell 1 _ rfl) hnot
    have ka2 := cell_abv (G := From W2.heap.size) (hA.cell 2 _ rfl) hnot
    have ka3 := cell_abv (G := From W2.heap.size) (hA.cell 3 _ rfl) hnot
    have ka4 := cell_abv (G := From W2.heap.size) (hA.cell 4 _ rfl) hnot
    have ka5 := cell_abv (G := From W2.heap.size) (hA.cell 5 _ rfl) hnot
    have ka6 := cell_abv (G := From W2.heap.size) (hA.cell 6 _ rfl) hnot
    have ka7 := cell_abv (G := From W2.heap.size) (hA.cell 7 _ rfl) hnot
    repeat (refine tq_take (by simp only [List.getElem?_toArray, List.getElem?_cons_succ, List.getElem?_cons_zero]; exact rfl) ?_; go_big_quiet_step (fail); refine wpQuiet_nil ?_)
    refine tq_both (by simp only [List.getElem?_toArray, List.getElem?_cons_succ, List.getElem?_cons_zero]; exact rfl) (by simp only [List.getElem?_toArray, List.getElem?_cons_succ, List.getElem?_cons_zero]; exact rfl) ?_ ?_
    · go_wp2_with fail
      refine (kind_any kind _ hbkind.1 hbkind.2).mono ?_
      rintro e W3 ⟨rfl, hb3⟩
      rw [← hv0.out]
      clear ka0 ka1 ka2 ka3 ka4 ka5 ka6 ka7
      go_wp2
      refine Solo.up hb3 ?_
      have hsz3 : W2.heap.size ≤ W3.heap.size := hb3.size
      refine tq_call (d := some 10) (by simp only [List.getElem?_toArray, List.getElem?_cons_succ, List.getElem?_cons_zero]; exact rfl) rfl rfl 8 #[.int .i64 tag, .int .i64 65536] (.int .i64 v1) (fun W => by go_simp) (fun W _ => by have := around_det tag 65536 W (hbtag).1 (hbtag).2 (by omega) (by omega); rw [hv1.out]; exact this) ?_
      simp only [Act.put, List.setIfInBounds_toArray, List.set_cons_succ, List.set_cons_zero]
      refine tq_call (d := some 13) (by simp only [List.getElem?_toArray, List.getElem?_cons_succ, List.getElem?_cons_zero]; exact rfl) rfl rfl 29 #[.int .i64 fid] (.int .i64 v2) (fun W => by go_simp) (fun W _ => by have := low_det fid W (hbfid).1 (hbfid).2; rw [hv2.out]; exact this) ?_
      simp only [Act.put, List.setIfInBounds_toArray, List.set_cons_succ, List.set_cons_zero]
      refine tq_call (d := some 16) (by simp only [List.getElem?_toArray, List.getElem?_cons_succ, List.getElem?_cons_zero]; exact rfl) rfl rfl 29 #[.int .i64 nfid] (.int .i64 v3) (fun W => by go_simp) (fun W _ => by have := low_det nfid W (hbnfid).1 (hbnfid).2; rw [hv3.out]; exact this) ?_
      simp only [Act.put, List.setIfInBounds_toArray, List.set_cons_succ, List.set_cons_zero]
      refine tq_call (d := some 19) (by simp only [List.getElem?_toArray, List.getElem?_cons_succ, List.getElem?_cons_zero]; exact rfl) rfl rfl 8 #[.int .i64 otag, .int .i64 65536] (.int .i64 v4) (fun W => by go_simp) (fun W _ => by have := around_det otag 65536 W (hbotag).1 (hbotag).2 (by omega) (by omega); rw [hv4.out]; exact this) ?_
      simp only [Act.put, List.setIfInBounds_toArray, List.set_cons_succ, List.set_cons_zero]
      refine tq_call (d := some 22) (by simp only [List.getElem?_toArray, List.getElem?_cons_succ, List.getElem?_cons_zero]; exact rfl) rfl rfl 29 #[.int .i64 msize] (.int .i64 v5) (fun W => by go_simp) (fun W _ => by have := low_det msize W (hbmsize).1 (hbmsize).2; rw [hv5.out]; exact this) ?_
      simp only [Act.put, List.setIfInBounds_toArray, List.set_cons_succ, List.set_cons_zero]
      refine tq_call (d := some 25) (by simp only [List.getElem?_toArray, List.getElem?_cons_succ, List.getElem?_cons_zero]; exact rfl) rfl rfl 8 #[.int .i64 mode, .int .i64 256] (.int .i64 v6) (fun W => by go_simp) (fun W _ => by have := around_det mode 256 W (hbmode).1 (hbmode).2 (by omega) (by omega); rw [hv6.out]; exact this) ?_
      simp only [Act.put, List.setIfInBounds_toArray, List.set_cons_succ, List.set_cons_zero]
      refine tq_call (d := some 28) (by simp only [List.getElem?_toArray, List.getElem?_cons_succ, List.getElem?_cons_zero]; exact rfl) rfl rfl 29 #[.int .i64 perm] (.int .i64 v7) (fun W => by go_simp) (fun W _ => by have := low_det perm W (hbperm).1 (hbperm).2; rw [hv7.out]; exact this) ?_
      simp only [Act.put, List.setIfInBounds_toArray, List.set_cons_succ, List.set_cons_zero]
      refine tq_val (d := some 29) (by simp only [List.getElem?_toArray, List.getElem?_cons_succ, List.getElem?_cons_zero]; exact rfl) rfl rfl (.agg #[.int .i64 v0, .int .i64 v1, .int .i64 v2, .int .i64 v3, .int .i64 v4, .int .i64 v5, .int .i64 v6, .int .i64 v7, .int .i64 0, .int .i64 0, .string ⟨#[]⟩, .slice none 0 0, .int .i64 0, .slice none 0 0]) (fun W => by go_simp) ?_
      simp only [Act.put, List.setIfInBounds_toArray, List.set_cons_succ, List.set_cons_zero]
      have hBz := Blk.new W3 32 [.int .i64 0, .int .i64 0, .int .i64 0, .int .i64 0, .int .i64 0, .int .i64 0, .int .i64 0, .int .i64 0, .int .i64 0, .int .i64 0, .string ByteArray.empty, .slice none 0 0, .int .i64 0, .slice none 0 0]
      refine tq_solo (by simp only [List.getElem?_toArray, List.getElem?_cons_succ, List.getElem?_cons_zero]; exact rfl) ?_
      go_wp2
      refine Solo.up ((Below.refl _ _).alloc (Nat.le_refl _) _) ?_
      refine tq_solo (by simp only [List.getElem?_toArray, List.getElem?_cons_succ, List.getElem?_cons_zero]; exact rfl) ?_
      go_wp2_with (refine wpList_storeBlk rfl (.tmp 3) (.tmp 29) rfl rfl [.int .i64 v0, .int .i64 v1, .int .i64 v2, .int .i64 v3, .int .i64 v4, .int .i64 v5, .int .i64 v6, .int .i64 v7, .int .i64 0, .int .i64 0, .string ByteArray.empty, .slice none 0 0, .int .i64 0, .slice none 0 0] rfl rfl (by kernel_rfl) hBz rfl (by simp [Value.oneCell']) ?_)
      refine Solo.mk ((keeps_setRow _ _).mono fun k hk e => by have e' : k = W3.heap.size := e; show W2.heap.size ≤ k; omega) ?_
      refine tq_end ?_
      go_wp2
      go_meet
      exact ⟨W3.heap.size, rfl, hsz3, hBz.setRow _, below_setRow ((Up.trans (Below.refl _ _).drew hb3).alloc hsz3 _) hsz3 _⟩
    · have hBz := Blk.new W2.drew 32 [.int .i64 0, .int .i64 0, .int .i64 0, .int .i64 0, .int .i64 0, .int .i64 0, .int .i64 0, .int .i64 0, .int .i64 0, .int .i64 0, .string ByteArray.empty, .slice none 0 0, .int .i64 0, .slice none 0 0]
      clear ka0 ka1 ka2 ka3 ka4 ka5 ka6 ka7
      go_wp2
      refine Solo.up ((Below.refl _ _).alloc (Nat.le_refl _) _) ?_
      refine tq_solo (by simp only [List.getElem?_toArray, List.getElem?_cons_succ, List.getElem?_cons_zero]; exact rfl) ?_
      go_wp2_with fail
      refine (kind_any kind _ hbkind.1 hbkind.2).mono ?_
      rintro e W3 ⟨rfl, hb3⟩
      rw [← hv0.out]
      have hBz' := hBz.up hb3
      go_wp2
      refine Solo.up hb3 ?_
      refine tq_call (d := some 10) (by simp only [List.getElem?_toArray, List.getElem?_cons_succ, List.getElem?_cons_zero]; exact rfl) rfl rfl 8 #[.int .i64 tag, .int .i64 65536] (.int .i64 v1) (fun W => by go_simp) (fun W _ => by have := around_det tag 65536 W (hbtag).1 (hbtag).2 (by omega) (by omega); rw [hv1.out]; exact this) ?_
      simp only [Act.put, List.setIfInBounds_toArray, List.set_cons_succ, List.set_cons_zero]
      refine tq_call (d := some 13) (by simp only [List.getElem?_toArray, List.getElem?_cons_succ, List.getElem?_cons_zero]; exact rfl) rfl rfl 29 #[.int .i64 fid] (.int .i64 v2) (fun W => by go_simp) (fun W _ => by have := low_det fid W (hbfid).1 (hbfid).2; rw [hv2.out]; exact this) ?_
      simp only [Act.put, List.setIfInBounds_toArray, List.set_cons_succ, List.set_cons_zero]
      refine tq_call (d := some 16) (by simp only [List.getElem?_toArray, List.getElem?_cons_succ, List.getElem?_cons_zero]; exact rfl) rfl rfl 29 #[.int .i64 nfid] (.int .i64 v3) (fun W => by go_simp) (fun W _ => by have := low_det nfid W (hbnfid).1 (hbnfid).2; rw [hv3.out]; exact this) ?_
      simp only [Act.put, List.setIfInBounds_toArray, List.set_cons_succ, List.set_cons_zero]
      refine tq_call (d := some 19) (by simp only [List.getElem?_toArray, List.getElem?_cons_succ, List.getElem?_cons_zero]; exact rfl) rfl rfl 8 #[.int .i64 otag, .int .i64 65536] (.int .i64 v4) (fun W => by go_simp) (fun W _ => by have := around_det otag 65536 W (hbotag).1 (hbotag).2 (by omega) (by omega); rw [hv4.out]; exact this) ?_
      simp only [Act.put, List.setIfInBounds_toArray, List.set_cons_succ, List.set_cons_zero]
      refine tq_call (d := some 22) (by simp only [List.getElem?_toArray, List.getElem?_cons_succ, List.getElem?_cons_zero]; exact rfl) rfl rfl 29 #[.int .i64 msize] (.int .i64 v5) (fun W => by go_simp) (fun W _ => by have := low_det msize W (hbmsize).1 (hbmsize).2; rw [hv5.out]; exact this) ?_
      simp only [Act.put, List.setIfInBounds_toArray, List.set_cons_succ, List.set_cons_zero]
      refine tq_call (d := some 25) (by simp only [List.getElem?_toArray, List.getElem?_cons_succ, List.getElem?_cons_zero]; exact rfl) rfl rfl 8 #[.int .i64 mode, .int .i64 256] (.int .i64 v6) (fun W => by go_simp) (fun W _ => by have := around_det mode 256 W (hbmode).1 (hbmode).2 (by omega) (by omega); rw [hv6.out]; exact this) ?_
      simp only [Act.put, List.setIfInBounds_toArray, List.set_cons_succ, List.set_cons_zero]
      refine tq_call (d := some 28) (by simp only [List.getElem?_toArray, List.getElem?_cons_succ, List.getElem?_cons_zero]; exact rfl) rfl rfl 29 #[.int .i64 perm] (.int .i64 v7) (fun W => by go_simp) (fun W _ => by have := low_det perm W (hbperm).1 (hbperm).2; rw [hv7.out]; exact this) ?_
      simp only [Act.put, List.setIfInBounds_toArray, List.set_cons_succ, List.set_cons_zero]
      refine tq_val (d := some 29) (by simp only [List.getElem?_toArray, List.getElem?_cons_succ, List.getElem?_cons_zero]; exact rfl) rfl rfl (.agg #[.int .i64 v0, .int .i64 v1, .int .i64 v2, .int .i64 v3, .int .i64 v4, .int .i64 v5, .int .i64 v6, .int .i64 v7, .int .i64 0, .int .i64 0, .string ⟨#[]⟩, .slice none 0 0, .int .i64 0, .slice none 0 0]) (fun W => by go_simp) ?_
      simp only [Act.put, List.setIfInBounds_toArray, List.set_cons_succ, List.set_cons_zero]
      refine tq_solo (by simp only [List.getElem?_toArray, List.getElem?_cons_succ, List.getElem?_cons_zero]; exact rfl) ?_
      go_wp2_with (refine wpList_storeBlk rfl (.tmp 3) (.tmp 29) rfl rfl [.int .i64 v0, .int .i64 v1, .int .i64 v2, .int .i64 v3, .int .i64 v4, .int .i64 v5, .int .i64 v6, .int .i64 v7, .int .i64 0, .int .i64 0, .string ByteArray.empty, .slice none 0 0, .int .i64 0, .slice none 0 0] rfl rfl (by kernel_rfl) hBz' rfl (by simp [Value.oneCell']) ?_)
      refine Solo.mk ((keeps_setRow _ _).mono fun k hk e => by have e' : k = W2.heap.size := e; show W2.heap.size ≤ k; omega) ?_
      refine tq_end ?_
      go_wp2
      go_meet
      exact ⟨W2.heap.size, rfl, Nat.le_refl _, hBz'.setRow _, below_setRow (Up.trans ((Below.refl _ _).drew.alloc (Nat.le_refl _) _) hb3) (Nat.le_refl _) _⟩
  case rest =>
    obtain ⟨gX, rfl, hgX, hX, hbX⟩ := hcut
    have HA := Lib.hid (HA.out.up hbX)
    have HZ := Lib.hid (HZ.out.up hbX)
    have HBc := Lib.hid (HB2.out.trans (hbX.mono (by omega)))
    have HX := Lib.hid hX
    have HK := Lib.hid (Keeps.refl (From gX) wc)
    have gA_ne : w.heap.size ≠ gX := by omega
    have gZ_ne : gZ ≠ gX := by omega
    have nA : ¬ From gX w.heap.size := fun h => by have h' : gX ≤ w.heap.size := h; omega
    have nZ : ¬ From gX gZ := fun h => by have h' : gX ≤ gZ := h; omega
    have hgXs := hX.lt
    clear hX hbX
    have ka := HA.out.cell 8 _ rfl
    go_wp2_with fail
    refine (show Calls Try.prog 8 #[.int .i64 off, .int .i64 4611686018427387905] wc fun e w' => e = .returned (.int .i64 v8) ∧ wc = w' by rw [hv8.out]; exact around_det off 4611686018427387905 _ hboff.1 hboff.2 (by omega) (by omega)).mono ?_
    rintro e w' ⟨rfl, rfl⟩
    have ku := HX.out.cell 8 _ rfl
    have kf := HX.out.free 8
    have hX' := HX.out.set 8 (.int .i64 v8)
    have hA' := HA.out.other (p := ⟨gX, 8, none⟩) gA_ne.symm (.int .i64 v8)
    have hZ' := HZ.out.other (p := ⟨gX, 8, none⟩) gZ_ne.symm (.int .i64 v8)
    have hK' := HK.out.setCell (p := ⟨gX, 8, none⟩) (.inl (Nat.le_refl _)) (.int .i64 v8)
    clear HX HA HZ HK
    go_upto_region 3 with fail
    generalize wc.setCell ⟨gX, 8, none⟩ (.int .i64 v8) = wd at hX' hA' hZ' hK'
    have HX := Lib.hid hX'
    have HA := Lib.hid hA'
    have HZ := Lib.hid hZ'
    have HK := Lib.hid hK'
    clear hX' hA' hZ' hK' ku kf ka
    have ka := HA.out.cell 9 _ rfl
    go_wp2_with fail
    refine (show Calls Try.prog 29 #[.int .i64 count] wd fun e w' => e = .returned (.int .i64 v9) ∧ wd = w' by rw [hv9.out]; exact low_det count _ hbcount.1 hbcount.2).mono ?_
    rintro e w' ⟨rfl, rfl⟩
    have ku := HX.out.cell 9 _ rfl
    have kf := HX.out.free 9
    have hX' := HX.out.set 9 (.int .i64 v9)
    have hA' := HA.out.other (p := ⟨gX, 9, none⟩) gA_ne.symm (.int .i64 v9)
    have hZ' := HZ.out.other (p := ⟨gX, 9, none⟩) gZ_ne.symm (.int .i64 v9)
    have hK' := HK.out.setCell (p := ⟨gX, 9, none⟩) (.inl (Nat.le_refl _)) (.int .i64 v9)
    clear HX HA HZ HK
    go_upto_region 4 with fail
    generalize wd.setCell ⟨gX, 9, none⟩ (.int .i64 v9) = we at hX' hA' hZ' hK'
    have HX := Lib.hid hX'
    have HA := Lib.hid hA'
    have HZ := Lib.hid hZ'
    have HK := Lib.hid hK'
    clear hX' hA' hZ' hK' ku kf ka
    have ka := HA.out.cell 12 _ rfl
    go_wp2_with fail
    refine (show Calls Try.prog 29 #[.int .i64 size] we fun e w' => e = .returned (.int .i64 y12) ∧ we = w' by rw [hy12.out]; exact low_det size _ hbsize.1 hbsize.2).mono ?_
    rintro e w' ⟨rfl, rfl⟩
    have ku := HX.out.cell 12 _ rfl
    have kf := HX.out.free 12
    have hX' := HX.out.set 12 (.int .i64 (y12 - 1))
    have hA' := HA.out.other (p := ⟨gX, 12, none⟩) gA_ne.symm (.int .i64 (y12 - 1))
    have hZ' := HZ.out.other (p := ⟨gX, 12, none⟩) gZ_ne.symm (.int .i64 (y12 - 1))
    have hK' := HK.out.setCell (p := ⟨gX, 12, none⟩) (.inl (Nat.le_refl _)) (.int .i64 (y12 - 1))
    clear HX HA HZ HK
    go_upto_region 5 with fail
    generalize we.setCell ⟨gX, 12, none⟩ (.int .i64 (y12 - 1)) = wf at hX' hA' hZ' hK'
    have HX := Lib.hid hX'
    have HA := Lib.hid hA'
    have HZ := Lib.hid hZ'
    have HK := Lib.hid hK'
    clear hX' hA' hZ' hK' ku kf ka
    have ka := HA.out.cell 10 _ rfl
    go_wp2_with fail
    refine (show Calls Try.prog 30 #[.string (st name), .int .i64 40] wf fun e w' => e = .returned (.string (st nm)) ∧ wf = w' by rw [hnm.out]; exact short_any name 40 _ hnl (by omega)).mono ?_
    rintro e w' ⟨rfl, rfl⟩
    have ku := HX.out.cell 10 _ rfl
    have kf := HX.out.free 10
    have hX' := HX.out.set 10 (.string (st nm))
    have hA' := HA.out.other (p := ⟨gX, 10, none⟩) gA_ne.symm (.string (st nm))
    have hZ' := HZ.out.other (p := ⟨gX, 10, none⟩) gZ_ne.symm (.string (st nm))
    have hK' := HK.out.setCell (p := ⟨gX, 10, none⟩) (.inl (Nat.le_refl _)) (.string (st nm))
    clear HX HA HZ HK
    go_upto_region 6 with fail
    generalize wf.setCell ⟨gX, 10, none⟩ (.string (st nm)) = wg at hX' hA' hZ' hK'
    have HX := Lib.hid hX'
    have HA := Lib.hid hA'
    have HZ := Lib.hid hZ'
    have HK := Lib.hid hK'
    clear hX' hA' hZ' hK' ku kf ka
    have hnln : names.length = nn := by rw [← sv_length]; exact HN.out.len
    have HNL := Lib.hid hnln
    have hA := HA.out
    have hX := HX.out
    have hK := HK.out
    have HZc := Lib.hid (HZ.out)
    clear hnln HA HX HZ HK
    have hKZ : ∀ (wr : World), Keeps (From gX) wg wr → Blk wr gZ 32 [.int .i64 0, .int .i64 0, .int .i64 0, .int .i64 0, .int .i64 0, .int .i64 0, .int .i64 0, .int .i64 0, .int .i64 0, .int .i64 0, .string ByteArray.empty, .slice none 0 0, .int .i64 0, .slice none 0 0] := fun _ k => HZc.out.keeps k nZ
    have HKZ := Lib.hid hKZ
    have hBg : Below w.heap.size w wg := HBc.out.trans (hK.under HBc.out.size (fun k hk e => by have e' : gX ≤ k := e; omega))
    have HBg := Lib.hid hBg
    clear hKZ hBg
    go_wp2
    go_loopw [4] (fun i wr => GnRel gX w.heap.size names (fun s => [.int .i64 v0, .int .i64 v1, .int .i64 v2, .int .i64 v3, .int .i64 v4, .int .i64 v5, .int .i64 v6, .int .i64 v7, .int .i64 v8, .int .i64 v9, .string (st nm), s, .int .i64 (y12 - 1), .slice none 0 0]) [.int .i64 kind, .int .i64 tag, .int .i64 fid, .int .i64 nfid, .int .i64 otag, .int .i64 msize, .int .i64 mode, .int .i64 perm, .int .i64 off, .int .i64 count, .string (st name), .slice An nn cn, .int .i64 size, .slice Ad nd cd] wg i wr) (fun i _ => 8 - (intOf i).toNat)
    case atStart => exact ⟨0, 0, none, [], by omega, by omega, rfl, Lib.hid rfl, hX, hA, OwV.nil _ _ _, Keeps.refl _ _⟩
    case round =>
      obtain ⟨j, c, A, ls, hj, hj8, rfl, hls, hXr, hAr, hOr, hKr⟩ := hrel
      have hXr : Blk wr gX 32 [.int .i64 v0, .int .i64 v1, .int .i64 v2, .int .i64 v3, .int .i64 v4, .int .i64 v5, .int .i64 v6, .int .i64 v7, .int .i64 v8, .int .i64 v9, .string (st nm), .slice A j c, .int .i64 (y12 - 1), .slice none 0 0] := hXr
      have ka := hAr.cell 11 _ rfl
      by_cases hlt : j < nn ∧ j < 8
      · obtain ⟨hlt1, hlt8⟩ := hlt
        have j0 : (0 : Int) ≤ j := by omega
        have j1 : (j : Int) < nn := by omega
        have j8 : (j : Int) < 8 := by omega
        have hbr : Below w.heap.size w wr := HBg.out.trans (hKr.under HBg.out.size (fun k hk e => by have e' : gX ≤ k := e; omega))
        obtain ⟨b, off', u, hAn, hbl, hu, hc⟩ := (HN.out.below hbr).at_ hlt1
        subst hAn
        have hjl : j < names.length := by rw [HNL.out]; exact hlt1
        obtain ⟨x, hx⟩ : ∃ x, x = names[j] := ⟨_, rfl⟩
        rw [sv_at, List.getElem?_eq_getElem hjl, ← hx] at hu
        obtain rfl : u = .string (st x) := by simpa using hu.symm
        have hxl : x.length ≤ 9223372036854775807 := by rw [hx]; exact HNl.out _ (List.getElem_mem hjl)
        have HT := Lib.hid (show (names.take (j + 1)).map (·.take 40) = (names.take j).map (·.take 40) ++ [x.take 40] by rw [List.take_add_one, List.getElem?_eq_getElem hjl, ← hx]; simp)
        obtain ⟨y, hy⟩ : ∃ y, Hid (y = x.take 40) := ⟨_, Lib.hid rfl⟩
        have nb : ¬ From gX b := fun h => by have h' : gX ≤ b := h; omega
        have kN := cell_abv (G := From gX) (w := wr.drew) hc nb
        have kA := cell_abv (G := From gX) (w := wr.drew) (hAr.drew.cell 11 _ rfl) nA
        have hXd := hXr.drew
        have hOd := hOr.drew
        have HXr := Lib.hid hXr
        have HAr := Lib.hid hAr
        have HOr := Lib.hid hOr
        have HKr := Lib.hid hKr
        have hgXr : gX < wr.heap.size := hXr.lt
        have hgXa : gX + 1 ≤ (wr.alloc (.cells #[.string (st y)] 9)).heap.size := by simp; omega
        have Hsrc := Lib.hid (Src.oneV (P := Try.prog) wr.drew 29 9 Try.underlying29 (.string (st y)) rfl 9)
        clear hu hx hc hXr hAr hOr hKr hbr
        go_wp2
        refine wp_region_tq (From gX) (.t 0 (.t 2 (.t 3 (.t 4 (.t 5 (.t 6 (.q 7 (.b 1 (.s 8 (.s 9 (.t 10 (.s 11 .nil)))) 8 (.s 1 (.s 9 (.t 10 (.s 11 .nil)))))))))))) (by kernel_rfl) (by kernel_rfl) ?_
        repeat (refine tq_take (by simp only [List.getElem?_toArray, List.getElem?_cons_succ, List.getElem?_cons_zero]; exact rfl) ?_; go_big_quiet_step (fail); refine wpQuiet_nil ?_)
        refine tq_call (d := some 65) (by simp only [List.getElem?_toArray, List.getElem?_cons_succ, List.getElem?_cons_zero]; exact rfl) rfl rfl 30 #[.string (st x), .int .i64 40] (.string (st y)) (fun W => by go_simp) (fun W _ => by rw [hy.out]; exact short_any x 40 W hxl (by omega)) ?_
        simp only [Act.put, List.setIfInBounds_toArray, List.set_cons_succ, List.set_cons_zero]
        refine tq_both (by simp only [List.getElem?_toArray, List.getElem?_cons_succ, List.getElem?_cons_zero]; exact rfl) (by simp only [List.getElem?_toArray, List.getElem?_cons_succ, List.getElem?_cons_zero]; exact rfl) ?_ ?_
        · have kx := hXd.cell 11 _ rfl
          clear ka kN kA
          go_wp2
          refine Solo.up (Below.refl _ _) ?_
          refine tq_solo (by simp only [List.getElem?_toArray, List.getElem?_cons_succ, List.getElem?_cons_zero]; exact rfl) ?_
          go_wp2
          refine Solo.up ((Below.refl _ _).alloc (Nat.le_refl _) _) ?_
          refine tq_solo (by simp only [List.getElem?_toArray, List.getElem?_cons_succ, List.getElem?_cons_zero]; exact rfl) ?_
          go_wp2_with (at_builtin; go_must (refine wpList_appendV strsElemA rfl (.tmp 59) (.tmp 66) 29 rfl (gX + 1) A j c (sv ls) rfl (hOd.alloc _) _ rfl 1 [.string (st y)] Hsrc.out (by omega) (by omega) hgXa ?_); intro A3 n3 c3 l3 w3 hl3 hn3 hown3 hb3 hg3)
          refine Solo.mk (keeps_below hb3 fun k hk => by have hk' : ¬ gX ≤ k := hk; omega) ?_
          obtain rfl : n3 = j + 1 := hn3.out
          obtain rfl : l3 = sv (ls ++ [y]) := by rw [hl3.out, sv_append]; rfl
          repeat (refine tq_take (by simp only [List.getElem?_toArray, List.getElem?_cons_succ, List.getElem?_cons_zero]; exact rfl) ?_; go_big_quiet_step (fail); refine wpQuiet_nil ?_)
          have hX3 := (hXd.alloc (.cells #[.string (st y)] 9)).below hb3 (by omega)
          have hA3 := (HAr.out.drew.alloc (.cells #[.string (st y)] 9)).below hb3 (by omega)
          have hK3 := ((HKr.out.drew).alloc (.cells #[.string (st y)] 9)).trans (keeps_below hb3 fun k hk => by have hk' : ¬ gX ≤ k := hk; omega)
          have ku := hX3.cell 11 _ rfl
          have kf := hX3.free 11
          have hX4 := hX3.set 11 (.slice A3 (j + 1) c3)
          have hA4 := hA3.other (p := ⟨gX, 11, none⟩) gA_ne.symm (.slice A3 (j + 1) c3)
          have hK4 := hK3.setCell (p := ⟨gX, 11, none⟩) (.inl (Nat.le_refl _)) (.slice A3 (j + 1) c3)
          have hO4 : OwV (w3.setCell ⟨gX, 11, none⟩ (.slice A3 (j + 1) c3)) (gX + 1) 9 A3 (j + 1) c3 (sv (ls ++ [y])) := Own.keeps hown3 ((Keeps.refl (Is gX) w3).setCell (p := ⟨gX, 11, none⟩) (.inl rfl) _) (fun k hk e => by have e' : k = gX := e; omega)
          refine tq_solo (by simp only [List.getElem?_toArray, List.getElem?_cons_succ, List.getElem?_cons_zero]; exact rfl) ?_
          go_wp2
          refine Solo.mk ((Keeps.refl (From gX) w3).setCell (p := ⟨gX, 11, none⟩) (.inl (Nat.le_refl _)) _) ?_
          refine tq_end ?_
          go_wp2
          go_roundw
          case rel => exact ⟨j + 1, c3, A3, ls ++ [y], by omega, by omega, by go_num, Lib.hid (by rw [HT.out, ← hy.out, hls.out]), hX4, hA4, hO4, hK4⟩
          case measure => simp [intOf]; omega
        · have kx : (wr.alloc (.cells #[.string (st y)] 9)).drew.cell? ⟨gX, 11, none⟩ = some (.slice A j c) := (hXd.alloc (.cells #[.string (st y)] 9)).cell 11 _ rfl
          clear ka kN kA
          go_wp2
          refine Solo.up ((Below.refl _ _).alloc (Nat.le_refl _) _) ?_
          refine tq_solo (by simp only [List.getElem?_toArray, List.getElem?_cons_succ, List.getElem?_cons_zero]; exact rfl) ?_
          go_wp2
          refine Solo.up (Below.refl _ _) ?_
          refine tq_solo (by simp only [List.getElem?_toArray, List.getElem?_cons_succ, List.getElem?_cons_zero]; exact rfl) ?_
          go_wp2_with (at_builtin; go_must (refine wpList_appendV strsElemA rfl (.tmp 59) (.tmp 66) 29 rfl (gX + 1) A j c (sv ls) rfl (hOd.alloc _) _ rfl 1 [.string (st y)] Hsrc.out (by omega) (by omega) hgXa ?_); intro A3 n3 c3 l3 w3 hl3 hn3 hown3 hb3 hg3)
          refine Solo.mk (keeps_below hb3 fun k hk => by have hk' : ¬ gX ≤ k := hk; omega) ?_
          obtain rfl : n3 = j + 1 := hn3.out
          obtain rfl : l3 = sv (ls ++ [y]) := by rw [hl3.out, sv_append]; rfl
          repeat (refine tq_take (by simp only [List.getElem?_toArray, List.getElem?_cons_succ, List.getElem?_cons_zero]; exact rfl) ?_; go_big_quiet_step (fail); refine wpQuiet_nil ?_)
          have hX3 := (hXd.alloc (.cells #[.string (st y)] 9)).below hb3 (by omega)
          have hA3 := (HAr.out.drew.alloc (.cells #[.string (st y)] 9)).below hb3 (by omega)
          have hK3 := ((HKr.out.drew).alloc (.cells #[.string (st y)] 9)).trans (keeps_below hb3 fun k hk => by have hk' : ¬ gX ≤ k := hk; omega)
          have ku := hX3.cell 11 _ rfl
          have kf := hX3.free 11
          have hX4 := hX3.set 11 (.slice A3 (j + 1) c3)
          have hA4 := hA3.other (p := ⟨gX, 11, none⟩) gA_ne.symm (.slice A3 (j + 1) c3)
          have hK4 := hK3.setCell (p := ⟨gX, 11, none⟩) (.inl (Nat.le_refl _)) (.slice A3 (j + 1) c3)
          have hO4 : OwV (w3.setCell ⟨gX, 11, none⟩ (.slice A3 (j + 1) c3)) (gX + 1) 9 A3 (j + 1) c3 (sv (ls ++ [y])) := Own.keeps hown3 ((Keeps.refl (Is gX) w3).setCell (p := ⟨gX, 11, none⟩) (.inl rfl) _) (fun k hk e => by have e' : k = gX := e; omega)
          refine tq_solo (by simp only [List.getElem?_toArray, List.getElem?_cons_succ, List.getElem?_cons_zero]; exact rfl) ?_
          go_wp2
          refine Solo.mk ((Keeps.refl (From gX) w3).setCell (p := ⟨gX, 11, none⟩) (.inl (Nat.le_refl _)) _) ?_
          refine tq_end ?_
          go_wp2
          go_roundw
          case rel => exact ⟨j + 1, c3, A3, ls ++ [y], by omega, by omega, by go_num, Lib.hid (by rw [HT.out, ← hy.out, hls.out]), hX4, hA4, hO4, hK4⟩
          case measure => simp [intOf]; omega
      · have hstop : (decide ((j : Int) < nn) = false ∧ decide (j < nn) = false) ∨ (j < nn ∧ decide ((j : Int) < 8) = false ∧ decide (j < 8) = false) := by
          rcases Nat.lt_or_ge j nn with h | h
          · right; exact ⟨h, by simp; omega, by simp; omega⟩
          · left; exact ⟨by simp; omega, by simp; omega⟩
        clear hlt
        have hbr : Below w.heap.size w wr := HBg.out.trans (hKr.under HBg.out.size (fun k hk e => by have e' : gX ≤ k := e; omega))
        have hls8 : Hid (ls = (names.take 8).map (·.take 40)) := by
          refine Lib.hid ?_
          rw [hls.out]
          have hnl2 := HNL.out
          rcases hstop with ⟨_, s2⟩ | ⟨_, _, s3⟩
          · have : nn ≤ j := by simpa using s2
            rw [List.take_of_length_le (by omega), List.take_of_length_le (by omega)]
          · have : 8 ≤ j := by simpa using s3
            rw [show j = 8 by omega]
        have hZr := HKZ.out _ hKr
        have kd := hAr.cell 13 _ rfl
        have HXr := Lib.hid hXr
        have HAr := Lib.hid hAr
        have HZr := Lib.hid hZr
        have HOr := Lib.hid hOr
        have Hbr := Lib.hid hbr
        have hgXr : gX < wr.heap.size := hXr.lt
        clear hXr hAr hZr hOr hbr hKr
        rcases hstop with ⟨s1, s2⟩ | ⟨s1, s2, s3⟩
        all_goals
          go_wp2_with fail
          refine (few_any Ad nd cd data 30 _ (HD.out.up Hbr.out) hDc hDm (by omega)).mono ?_
          rintro e wh ⟨Af, nf, cf, lf, hlf, rfl, hownf, hbf⟩
          have hX := HXr.out.up hbf
          have hZ := HZr.out.up hbf
          have hO := HOr.out.up hbf
          have ku := hX.cell 13 _ rfl
          have kf := hX.free 13
          have hX' := hX.set 13 (.slice Af nf cf)
          have hZ' := hZ.other (p := ⟨gX, 13, none⟩) gZ_ne.symm (.slice Af nf cf)
          have hK13 : Keeps (Is gX) wh (wh.setCell ⟨gX, 13, none⟩ (.slice Af nf cf)) := (Keeps.refl (Is gX) wh).setCell (p := ⟨gX, 13, none⟩) (.inl rfl) _
          have hO' : OwV (wh.setCell ⟨gX, 13, none⟩ (.slice Af nf cf)) (gX + 1) 9 A j c (sv ls) := Own.keeps hO hK13 (fun k hk e => by have e' : k = gX := e; omega)
          have hF' : OwB (wh.setCell ⟨gX, 13, none⟩ (.slice Af nf cf)) (gX + 1) Af nf cf lf := Own.keeps (Own.lower hownf (by omega)) hK13 (fun k hk e => by have e' : k = gX := e; omega)
          have hB' : Below w.heap.size w (wh.setCell ⟨gX, 13, none⟩ (.slice Af nf cf)) := (Hbr.out.trans (hbf.mono Hbr.out.size)).trans (hK13.is (by omega) (by have := hbf.size; omega))
          clear hX hZ hO hownf hbf hK13
          go_upto_region 11 with fail
          generalize wh.setCell ⟨gX, 13, none⟩ (.slice Af nf cf) = wj at hX' hZ' hO' hF' hB'
          have HZj := Lib.hid hZ'
          have HOj := Lib.hid hO'
          have HFj := Lib.hid hF'
          have HBj := Lib.hid hB'
          have e0 := hX'.cell 0 _ rfl
          have e1 := hX'.cell 1 _ rfl
          have e2 := hX'.cell 2 _ rfl
          have e3 := hX'.cell 3 _ rfl
          have e4 := hX'.cell 4 _ rfl
          have e5 := hX'.cell 5 _ rfl
          have e6 := hX'.cell 6 _ rfl
          have e7 := hX'.cell 7 _ rfl
          have e8 := hX'.cell 8 _ rfl
          have e9 := hX'.cell 9 _ rfl
          have e10 := hX'.cell 10 _ rfl
          have e11 := hX'.cell 11 _ rfl
          have e12 := hX'.cell 12 _ rfl
          have e13 := hX'.cell 13 _ rfl
          clear hX' hZ' hO' hF' hB' ku kf kd ka
          go_wp2_with fail
          refine (own_any v0 v1 v2 v3 v4 v5 v6 v7 v8 v9 (y12 - 1) nm ls lf A j c Af nf cf _).mono ?_
          rintro e wi ⟨An', nn', cn', Ad', nd', cd', rfl, hNs, hDs, hbi⟩
          obtain ⟨q, hq⟩ : ∃ q, Hid (q = ownV ⟨v0, v1, v2, v3, v4, v5, v6, v7, v8, v9, y12 - 1, nm, ls, lf⟩) := ⟨_, Lib.hid rfl⟩
          rw [← hq.out]
          obtain ⟨q0, q1, q2, q3, q4, q5, q6, q7, q8, q9, q10, qn, qns, qd⟩ := q
          simp only [askC]
          have hON : OwV wi (gX + 1) 9 An' nn' cn' (sv qns) := by
            have hkn : qns = if hasL v0 108 then ls else [] := congrArg AskV.names hq.out
            rcases hNs.out with ⟨h, rfl, rfl, rfl⟩ | ⟨h, rfl, rfl, rfl⟩
            · have hkn' : hasL v0 108 = true := h
              rw [hkn, if_pos hkn']; exact HOj.out.up hbi
            · have hkn' : hasL v0 108 = false := h
              rw [hkn, hkn']; exact OwV.nil _ _ _
          have hOD : OwB wi (gX + 1) Ad' nd' cd' qd := by
            have hkn : qd = if hasL v0 100 then lf else [] := congrArg AskV.data hq.out
            rcases hDs.out with ⟨h, rfl, rfl, rfl⟩ | ⟨h, rfl, rfl, rfl⟩
            · have hkn' : hasL v0 100 = true := h
              rw [hkn, if_pos hkn']; exact HFj.out.up hbi
            · have hkn' : hasL v0 100 = false := h
              rw [hkn, hkn']; exact OwB.nil _ _
          have hZi := HZj.out.up hbi
          have hBi := HBj.out.trans (hbi.mono HBj.out.size)
          have HON := Lib.hid hON
          have HOD := Lib.hid hOD
          have HBi := Lib.hid hBi
          clear hON hOD hBi hNs hDs hbi e0 e1 e2 e3 e4 e5 e6 e7 e8 e9 e10 e11 e12 e13
          go_wp2_with (refine wpList_storeBlk rfl (.tmp 2) (.tmp 74) rfl rfl [.int .i64 q0, .int .i64 q1, .int .i64 q2, .int .i64 q3, .int .i64 q4, .int .i64 q5, .int .i64 q6, .int .i64 q7, .int .i64 q8, .int .i64 q9, .string (st qn), .slice An' nn' cn', .int .i64 q10, .slice Ad' nd' cd'] rfl rfl (by kernel_rfl) hZi rfl (by simp [Value.oneCell']) ?_)
          have hF := hZi.setRow [.int .i64 q0, .int .i64 q1, .int .i64 q2, .int .i64 q3, .int .i64 q4, .int .i64 q5, .int .i64 q6, .int .i64 q7, .int .i64 q8, .int .i64 q9, .string (st qn), .slice An' nn' cn', .int .i64 q10, .slice Ad' nd' cd']
          have z0 := hF.cell 0 _ rfl
          have z1 := hF.cell 1 _ rfl
          have z2 := hF.cell 2 _ rfl
          have z3 := hF.cell 3 _ rfl
          have z4 := hF.cell 4 _ rfl
          have z5 := hF.cell 5 _ rfl
          have z6 := hF.cell 6 _ rfl
          have z7 := hF.cell 7 _ rfl
          have z8 := hF.cell 8 _ rfl
          have z9 := hF.cell 9 _ rfl
          have z10 := hF.cell 10 _ rfl
          have z11 := hF.cell 11 _ rfl
          have z12 := hF.cell 12 _ rfl
          have z13 := hF.cell 13 _ rfl
          exact bodyPost_ret (v := .agg #[.int .i64 q0, .int .i64 q1, .int .i64 q2, .int .i64 q3, .int .i64 q4, .int .i64 q5, .int .i64 q6, .int .i64 q7, .int .i64 q8, .int .i64 q9, .string (st qn), .slice An' nn' cn', .int .i64 q10, .slice Ad' nd' cd']) (by simp [results, Try.results12, go_sem, z0, z1, z2, z3, z4, z5, z6, z7, z8, z9, z10, z11, z12, z13]) rfl ⟨⟨q0, q1, q2, q3, q4, q5, q6, q7, q8, q9, q10, qn, qns, qd⟩, An', nn', cn', Ad', nd', cd', Lib.hid (hq.out.trans (by rw [hv0.out, hv1.out, hv2.out, hv3.out, hv4.out, hv5.out, hv6.out, hv7.out, hv8.out, hv9.out, hy12.out, hnm.out, hls8.out, hlf.out]; rfl)), rfl,
            Own.lower (Own.keeps HON.out (keeps_setRow (g := gZ) _ _) (fun k hk e => by have e' : k = gZ := e; omega)) (by omega), Own.lower (Own.keeps HOD.out (keeps_setRow (g := gZ) _ _) (fun k hk e => by have e' : k = gZ := e; omega)) (by omega), below_setRow HBi.out (by omega) _⟩
end Go.Proofs.Ytgogdgpdkkbfhaa
