/-
  Layer 17's helper Own.
-/
import Derived.Test.YtgogdgpdkkbfhaaAskA
namespace Go.Proofs.Ytgogdgpdkkbfhaa
open Go.RowKit
set_option linter.unusedVariables false
set_option linter.unusedSimpArgs false

/-- A request. -/
structure AskV where
  kind : Int
  tag : Int
  fid : Int
  nfid : Int
  otag : Int
  msize : Int
  mode : Int
  perm : Int
  off : Int
  count : Int
  size : Int
  name : List UInt8
  names : List (List UInt8)
  data : List UInt8
/-- What is laid alone. -/
def ownV (a : AskV) : AskV :=
  { kind := a.kind, tag := a.tag, fid := if hasL a.kind 102 then a.fid else 0, nfid := if hasL a.kind 119 then a.nfid else 0, otag := if hasL a.kind 116 then a.otag else 0, msize := if hasL a.kind 122 then a.msize else 0, mode := if hasL a.kind 109 then a.mode else 0, perm := if hasL a.kind 112 then a.perm else 0, off := if hasL a.kind 111 then a.off else 0, count := if hasL a.kind 99 then a.count else 0, size := if hasL a.kind 115 then a.size else 0, name := if hasL a.kind 110 then a.name else [], names := if hasL a.kind 108 then a.names else [], data := if hasL a.kind 100 then a.data else [] }
/-- The request's cells. -/
def askC (a : AskV) (An : Option Addr) (nn cn : Nat) (Ad : Option Addr) (nd cd : Nat) : List Value :=
  [.int .i64 a.kind, .int .i64 a.tag, .int .i64 a.fid, .int .i64 a.nfid, .int .i64 a.otag, .int .i64 a.msize, .int .i64 a.mode, .int .i64 a.perm, .int .i64 a.off, .int .i64 a.count, .string (st a.name), .slice An nn cn, .int .i64 a.size, .slice Ad nd cd]
theorem askC_one (a : AskV) (An : Option Addr) (nn cn : Nat) (Ad : Option Addr) (nd cd : Nat) : ∀ v ∈ askC a An nn cn Ad nd cd, v.oneCell' = true := by
  intro v hv
  simp only [askC, List.mem_cons, List.not_mem_nil, or_false] at hv
  rcases hv with rfl | rfl | rfl | rfl | rfl | rfl | rfl | rfl | rfl | rfl | rfl | rfl | rfl | rfl <;> rfl
/-- What Own leaves: names and data are those that came, or none. -/
def OwnPost (a : AskV) (An : Option Addr) (nn cn : Nat) (Ad : Option Addr) (nd cd : Nat) (w : World) (e : Ending) (w' : World) : Prop :=
  ∃ An' nn' cn' Ad' nd' cd', e = .returned (.agg (askC (ownV a) An' nn' cn' Ad' nd' cd').toArray) ∧ Hid ((hasL a.kind 108 = true ∧ An' = An ∧ nn' = nn ∧ cn' = cn) ∨ (hasL a.kind 108 = false ∧ An' = none ∧ nn' = 0 ∧ cn' = 0)) ∧ Hid ((hasL a.kind 100 = true ∧ Ad' = Ad ∧ nd' = nd ∧ cd' = cd) ∨ (hasL a.kind 100 = false ∧ Ad' = none ∧ nd' = 0 ∧ cd' = 0)) ∧ Below w.heap.size w w'

set_option maxRecDepth 100000 in
set_option maxHeartbeats 8000000 in
theorem own_any (kind tag fid nfid otag msize mode perm off count size : Int) (name : List UInt8) (names : List (List UInt8)) (data : List UInt8) (An : Option Addr) (nn cn : Nat) (Ad : Option Addr) (nd cd : Nat) (w : World) :
    Calls Try.prog 32 #[.agg #[.int .i64 kind, .int .i64 tag, .int .i64 fid, .int .i64 nfid, .int .i64 otag, .int .i64 msize, .int .i64 mode, .int .i64 perm, .int .i64 off, .int .i64 count, .string (st name), .slice An nn cn, .int .i64 size, .slice Ad nd cd]] w (OwnPost ⟨kind, tag, fid, nfid, otag, msize, mode, perm, off, count, size, name, names, data⟩ An nn cn Ad nd cd w) := by
  have hA0 := Blk.new w 32 [.int .i64 kind, .int .i64 tag, .int .i64 fid, .int .i64 nfid, .int .i64 otag, .int .i64 msize, .int .i64 mode, .int .i64 perm, .int .i64 off, .int .i64 count, .string (st name), .slice An nn cn, .int .i64 size, .slice Ad nd cd]
  have hZ0 := Blk.new (w.alloc (.cells #[.int .i64 kind, .int .i64 tag, .int .i64 fid, .int .i64 nfid, .int .i64 otag, .int .i64 msize, .int .i64 mode, .int .i64 perm, .int .i64 off, .int .i64 count, .string (st name), .slice An nn cn, .int .i64 size, .slice Ad nd cd] 32)) 32 [.int .i64 0, .int .i64 0, .int .i64 0, .int .i64 0, .int .i64 0, .int .i64 0, .int .i64 0, .int .i64 0, .int .i64 0, .int .i64 0, .string ByteArray.empty, .slice none 0 0, .int .i64 0, .slice none 0 0]
  have hX0 := Blk.new ((w.alloc (.cells #[.int .i64 kind, .int .i64 tag, .int .i64 fid, .int .i64 nfid, .int .i64 otag, .int .i64 msize, .int .i64 mode, .int .i64 perm, .int .i64 off, .int .i64 count, .string (st name), .slice An nn cn, .int .i64 size, .slice Ad nd cd] 32)).alloc (.cells #[.int .i64 0, .int .i64 0, .int .i64 0, .int .i64 0, .int .i64 0, .int .i64 0, .int .i64 0, .int .i64 0, .int .i64 0, .int .i64 0, .string ByteArray.empty, .slice none 0 0, .int .i64 0, .slice none 0 0] 32)) 32 [.int .i64 kind, .int .i64 tag, .int .i64 0, .int .i64 0, .int .i64 0, .int .i64 0, .int .i64 0, .int .i64 0, .int .i64 0, .int .i64 0, .string ByteArray.empty, .slice none 0 0, .int .i64 0, .slice none 0 0]
  obtain ⟨W2, hW2⟩ : ∃ x, x = ((w.alloc (.cells #[.int .i64 kind, .int .i64 tag, .int .i64 fid, .int .i64 nfid, .int .i64 otag, .int .i64 msize, .int .i64 mode, .int .i64 perm, .int .i64 off, .int .i64 count, .string (st name), .slice An nn cn, .int .i64 size, .slice Ad nd cd] 32)).alloc (.cells #[.int .i64 0, .int .i64 0, .int .i64 0, .int .i64 0, .int .i64 0, .int .i64 0, .int .i64 0, .int .i64 0, .int .i64 0, .int .i64 0, .string ByteArray.empty, .slice none 0 0, .int .i64 0, .slice none 0 0] 32)).alloc (.cells #[.int .i64 kind, .int .i64 tag, .int .i64 0, .int .i64 0, .int .i64 0, .int .i64 0, .int .i64 0, .int .i64 0, .int .i64 0, .int .i64 0, .string ByteArray.empty, .slice none 0 0, .int .i64 0, .slice none 0 0] 32) := ⟨_, rfl⟩
  have hs : W2.heap.size = w.heap.size + 3 := by rw [hW2]; simp
  have hA2 : Blk W2 w.heap.size 32 [.int .i64 kind, .int .i64 tag, .int .i64 fid, .int .i64 nfid, .int .i64 otag, .int .i64 msize, .int .i64 mode, .int .i64 perm, .int .i64 off, .int .i64 count, .string (st name), .slice An nn cn, .int .i64 size, .slice Ad nd cd] := by rw [hW2]; exact (hA0.alloc _).alloc _
  have hZ2 : Blk W2 (w.heap.size + 1) 32 [.int .i64 0, .int .i64 0, .int .i64 0, .int .i64 0, .int .i64 0, .int .i64 0, .int .i64 0, .int .i64 0, .int .i64 0, .int .i64 0, .string ByteArray.empty, .slice none 0 0, .int .i64 0, .slice none 0 0] := by rw [hW2]; have := hZ0.alloc (.cells #[.int .i64 kind, .int .i64 tag, .int .i64 0, .int .i64 0, .int .i64 0, .int .i64 0, .int .i64 0, .int .i64 0, .int .i64 0, .int .i64 0, .string ByteArray.empty, .slice none 0 0, .int .i64 0, .slice none 0 0] 32); simpa using this
  have hX2 : Blk W2 (w.heap.size + 1 + 1) 32 [.int .i64 kind, .int .i64 tag, .int .i64 0, .int .i64 0, .int .i64 0, .int .i64 0, .int .i64 0, .int .i64 0, .int .i64 0, .int .i64 0, .string ByteArray.empty, .slice none 0 0, .int .i64 0, .slice none 0 0] := by rw [hW2]; have := hX0; simpa using this
  obtain ⟨gX, hgX⟩ : ∃ x, x = w.heap.size + 1 + 1 := ⟨_, rfl⟩
  obtain ⟨gZ, hgZ⟩ : ∃ x, x = w.heap.size + 1 := ⟨_, rfl⟩
  rw [← hgX] at hX2
  rw [← hgZ] at hZ2
  have gA_lt : w.heap.size < gX := by omega
  have gA_ne : w.heap.size ≠ gX := by omega
  have gZ_ne : gZ ≠ gX := by omega
  have gZ_le : w.heap.size ≤ gZ := by omega
  have hk2 : Keeps (Is gX) w W2 := by rw [hW2]; exact ((((Keeps.refl _ _).alloc _).alloc _).alloc _)
  have hW3 : W2 = ((w.alloc (.cells #[.int .i64 kind, .int .i64 tag, .int .i64 fid, .int .i64 nfid, .int .i64 otag, .int .i64 msize, .int .i64 mode, .int .i64 perm, .int .i64 off, .int .i64 count, .string (st name), .slice An nn cn, .int .i64 size, .slice Ad nd cd] 32)).alloc (.cells #[.int .i64 0, .int .i64 0, .int .i64 0, .int .i64 0, .int .i64 0, .int .i64 0, .int .i64 0, .int .i64 0, .int .i64 0, .int .i64 0, .string ⟨#[]⟩, .slice none 0 0, .int .i64 0, .slice none 0 0] 32)).alloc (.cells #[.int .i64 kind, .int .i64 tag, .int .i64 0, .int .i64 0, .int .i64 0, .int .i64 0, .int .i64 0, .int .i64 0, .int .i64 0, .int .i64 0, .string ⟨#[]⟩, .slice none 0 0, .int .i64 0, .slice none 0 0] 32) := hW2
  have HA := Lib.hid hA2
  have HZ := Lib.hid hZ2
  have HX := Lib.hid hX2
  have HK := Lib.hid hk2
  have GX := Lib.hid hgX
  have GZ := Lib.hid hgZ
  clear hA0 hZ0 hX0 hA2 hZ2 hX2 hk2 hW2 hgX hgZ hs
  go_enter Try.func32, Try.ntmps32
  go_upto_region 3 with fail
  rw [← hW3, ← GX.out, ← GZ.out]
  clear hW3
  have ka := HA.out.cell 2 _ rfl
  go_wp2_with fail
  refine (keep_any kind 102 fid _).mono ?_
  rintro e W3q ⟨v2, hv2, rfl, hb⟩
  have hX := HX.out.up hb
  have hA := HA.out.up hb
  have hZ := HZ.out.up hb
  have ku := hX.cell 2 _ rfl
  have kf := hX.free 2
  have hX' := hX.set 2 (.int .i64 v2)
  have hA' := hA.other (p := ⟨gX, 2, none⟩) gA_ne.symm (.int .i64 v2)
  have hZ' := hZ.other (p := ⟨gX, 2, none⟩) gZ_ne.symm (.int .i64 v2)
  have hK' := (HK.out.trans (Keeps.of_below hb)).setCell (p := ⟨gX, 2, none⟩) (.inl rfl) (.int .i64 v2)
  clear ka hX hA hZ HX HA HZ HK hb
  go_upto_region 4 with fail
  generalize W3q.setCell ⟨gX, 2, none⟩ (.int .i64 v2) = W3 at hX' hA' hZ' hK'
  have HA := Lib.hid hA'
  have HZ := Lib.hid hZ'
  have HX := Lib.hid hX'
  have HK := Lib.hid hK'
  clear hA' hZ' hX' hK' ku kf
  have ka := HA.out.cell 3 _ rfl
  go_wp2_with fail
  refine (keep_any kind 119 nfid _).mono ?_
  rintro e W4q ⟨v3, hv3, rfl, hb⟩
  have hX := HX.out.up hb
  have hA := HA.out.up hb
  have hZ := HZ.out.up hb
  have ku := hX.cell 3 _ rfl
  have kf := hX.free 3
  have hX' := hX.set 3 (.int .i64 v3)
  have hA' := hA.other (p := ⟨gX, 3, none⟩) gA_ne.symm (.int .i64 v3)
  have hZ' := hZ.other (p := ⟨gX, 3, none⟩) gZ_ne.symm (.int .i64 v3)
  have hK' := (HK.out.trans (Keeps.of_below hb)).setCell (p := ⟨gX, 3, none⟩) (.inl rfl) (.int .i64 v3)
  clear ka hX hA hZ HX HA HZ HK hb
  go_upto_region 5 with fail
  generalize W4q.setCell ⟨gX, 3, none⟩ (.int .i64 v3) = W4 at hX' hA' hZ' hK'
  have HA := Lib.hid hA'
  have HZ := Lib.hid hZ'
  have HX := Lib.hid hX'
  have HK := Lib.hid hK'
  clear hA' hZ' hX' hK' ku kf
  have ka := HA.out.cell 4 _ rfl
  go_wp2_with fail
  refine (keep_any kind 116 otag _).mono ?_
  rintro e W5q ⟨v4, hv4, rfl, hb⟩
  have hX := HX.out.up hb
  have hA := HA.out.up hb
  have hZ := HZ.out.up hb
  have ku := hX.cell 4 _ rfl
  have kf := hX.free 4
  have hX' := hX.set 4 (.int .i64 v4)
  have hA' := hA.other (p := ⟨gX, 4, none⟩) gA_ne.symm (.int .i64 v4)
  have hZ' := hZ.other (p := ⟨gX, 4, none⟩) gZ_ne.symm (.int .i64 v4)
  have hK' := (HK.out.trans (Keeps.of_below hb)).setCell (p := ⟨gX, 4, none⟩) (.inl rfl) (.int .i64 v4)
  clear ka hX hA hZ HX HA HZ HK hb
  go_upto_region 6 with fail
  generalize W5q.setCell ⟨gX, 4, none⟩ (.int .i64 v4) = W5 at hX' hA' hZ' hK'
  have HA := Lib.hid hA'
  have HZ := Lib.hid hZ'
  have HX := Lib.hid hX'
  have HK := Lib.hid hK'
  clear hA' hZ' hX' hK' ku kf
  have ka := HA.out.cell 5 _ rfl
  go_wp2_with fail
  refine (keep_any kind 122 msize _).mono ?_
  rintro e W6q ⟨v5, hv5, rfl, hb⟩
  have hX := HX.out.up hb
  have hA := HA.out.up hb
  have hZ := HZ.out.up hb
  have ku := hX.cell 5 _ rfl
  have kf := hX.free 5
  have hX' := hX.set 5 (.int .i64 v5)
  have hA' := hA.other (p := ⟨gX, 5, none⟩) gA_ne.symm (.int .i64 v5)
  have hZ' := hZ.other (p := ⟨gX, 5, none⟩) gZ_ne.symm (.int .i64 v5)
  have hK' := (HK.out.trans (Keeps.of_below hb)).setCell (p := ⟨gX, 5, none⟩) (.inl rfl) (.int .i64 v5)
  clear ka hX hA hZ HX HA HZ HK hb
  go_upto_region 7 with fail
  generalize W6q.setCell ⟨gX, 5, none⟩ (.int .i64 v5) = W6 at hX' hA' hZ' hK'
  have HA := Lib.hid hA'
  have HZ := Lib.hid hZ'
  have HX := Lib.hid hX'
  have HK := Lib.hid hK'
  clear hA' hZ' hX' hK' ku kf
  have ka := HA.out.cell 6 _ rfl
  go_wp2_with fail
  refine (keep_any kind 109 mode _).mono ?_
  rintro e W7q ⟨v6, hv6, rfl, hb⟩
  have hX := HX.out.up hb
  have hA := HA.out.up hb
  have hZ := HZ.out.up hb
  have ku := hX.cell 6 _ rfl
  have kf := hX.free 6
  have hX' := hX.set 6 (.int .i64 v6)
  have hA' := hA.other (p := ⟨gX, 6, none⟩) gA_ne.symm (.int .i64 v6)
  have hZ' := hZ.other (p := ⟨gX, 6, none⟩) gZ_ne.symm (.int .i64 v6)
  have hK' := (HK.out.trans (Keeps.of_below hb)).setCell (p := ⟨gX, 6, none⟩) (.inl rfl) (.int .i64 v6)
  clear ka hX hA hZ HX HA HZ HK hb
  go_upto_region 8 with fail
  generalize W7q.setCell ⟨gX, 6, none⟩ (.int .i64 v6) = W7 at hX' hA' hZ' hK'
  have HA := Lib.hid hA'
  have HZ := Lib.hid hZ'
  have HX := Lib.hid hX'
  have HK := Lib.hid hK'
  clear hA' hZ' hX' hK' ku kf
  have ka := HA.out.cell 7 _ rfl
  go_wp2_with fail
  refine (keep_any kind 112 perm _).mono ?_
  rintro e W8q ⟨v7, hv7, rfl, hb⟩
  have hX := HX.out.up hb
  have hA := HA.out.up hb
  have hZ := HZ.out.up hb
  have ku := hX.cell 7 _ rfl
  have kf := hX.free 7
  have hX' := hX.set 7 (.int .i64 v7)
  have hA' := hA.other (p := ⟨gX, 7, none⟩) gA_ne.symm (.int .i64 v7)
  have hZ' := hZ.other (p := ⟨gX, 7, none⟩) gZ_ne.symm (.int .i64 v7)
  have hK' := (HK.out.trans (Keeps.of_below hb)).setCell (p := ⟨gX, 7, none⟩) (.inl rfl) (.int .i64 v7)
  clear ka hX hA hZ HX HA HZ HK hb
  go_upto_region 9 with fail
  generalize W8q.setCell ⟨gX, 7, none⟩ (.int .i64 v7) = W8 at hX' hA' hZ' hK'
  have HA := Lib.hid hA'
  have HZ := Lib.hid hZ'
  have HX := Lib.hid hX'
  have HK := Lib.hid hK'
  clear hA' hZ' hX' hK' ku kf
  have ka := HA.out.cell 8 _ rfl
  go_wp2_with fail
  refine (keep_any kind 111 off _).mono ?_
  rintro e W9q ⟨v8, hv8, rfl, hb⟩
  have hX := HX.out.up hb
  have hA := HA.out.up hb
  have hZ := HZ.out.up hb
  have ku := hX.cell 8 _ rfl
  have kf := hX.free 8
  have hX' := hX.set 8 (.int .i64 v8)
  have hA' := hA.other (p := ⟨gX, 8, none⟩) gA_ne.symm (.int .i64 v8)
  have hZ' := hZ.other (p := ⟨gX, 8, none⟩) gZ_ne.symm (.int .i64 v8)
  have hK' := (HK.out.trans (Keeps.of_below hb)).setCell (p := ⟨gX, 8, none⟩) (.inl rfl) (.int .i64 v8)
  clear ka hX hA hZ HX HA HZ HK hb
  go_upto_region 10 with fail
  generalize W9q.setCell ⟨gX, 8, none⟩ (.int .i64 v8) = W9 at hX' hA' hZ' hK'
  have HA := Lib.hid hA'
  have HZ := Lib.hid hZ'
  have HX := Lib.hid hX'
  have HK := Lib.hid hK'
  clear hA' hZ' hX' hK' ku kf
  have ka := HA.out.cell 9 _ rfl
  go_wp2_with fail
  refine (keep_any kind 99 count _).mono ?_
  rintro e W10q ⟨v9, hv9, rfl, hb⟩
  have hX := HX.out.up hb
  have hA := HA.out.up hb
  have hZ := HZ.out.up hb
  have ku := hX.cell 9 _ rfl
  have kf := hX.free 9
  have hX' := hX.set 9 (.int .i64 v9)
  have hA' := hA.other (p := ⟨gX, 9, none⟩) gA_ne.symm (.int .i64 v9)
  have hZ' := hZ.other (p := ⟨gX, 9, none⟩) gZ_ne.symm (.int .i64 v9)
  have hK' := (HK.out.trans (Keeps.of_below hb)).setCell (p := ⟨gX, 9, none⟩) (.inl rfl) (.int .i64 v9)
  clear ka hX hA hZ HX HA HZ HK hb
  go_upto_region 11 with fail
  generalize W10q.setCell ⟨gX, 9, none⟩ (.int .i64 v9) = W10 at hX' hA' hZ' hK'
  have HA := Lib.hid hA'
  have HZ := Lib.hid hZ'
  have HX := Lib.hid hX'
  have HK := Lib.hid hK'
  clear hA' hZ' hX' hK' ku kf
  have ka := HA.out.cell 12 _ rfl
  go_wp2_with fail
  refine (keep_any kind 115 size _).mono ?_
  rintro e W11q ⟨v12, hv12, rfl, hb⟩
  have hX := HX.out.up hb
  have hA := HA.out.up hb
  have hZ := HZ.out.up hb
  have ku := hX.cell 12 _ rfl
  have kf := hX.free 12
  have hX' := hX.set 12 (.int .i64 v12)
  have hA' := hA.other (p := ⟨gX, 12, none⟩) gA_ne.symm (.int .i64 v12)
  have hZ' := hZ.other (p := ⟨gX, 12, none⟩) gZ_ne.symm (.int .i64 v12)
  have hK' := (HK.out.trans (Keeps.of_below hb)).setCell (p := ⟨gX, 12, none⟩) (.inl rfl) (.int .i64 v12)
  clear ka hX hA hZ HX HA HZ HK hb
  go_upto_region 12 with fail
  generalize W11q.setCell ⟨gX, 12, none⟩ (.int .i64 v12) = W11 at hX' hA' hZ' hK'
  have HA := Lib.hid hA'
  have HZ := Lib.hid hZ'
  have HX := Lib.hid hX'
  have HK := Lib.hid hK'
  clear hA' hZ' hX' hK' ku kf
  go_wp2_with fail
  refine (has_any kind 110 _).mono ?_
  rintro e Wh0 ⟨rfl, hb⟩
  have hX := HX.out.up hb
  have hA := HA.out.up hb
  have hZ := HZ.out.up hb
  have hKb := HK.out.trans (Keeps.of_below hb)
  clear HX HA HZ HK hb
  cases hHN : hasL kind 110 with
  | true =>
    have HN := Lib.hid hHN
    clear hHN
    have ka := hA.cell 10 _ rfl
    have ku := hX.cell 10 _ rfl
    have kf := hX.free 10
    have hX' := hX.set 10 (.string (st name))
    have hA' := hA.other (p := ⟨gX, 10, none⟩) gA_ne.symm (.string (st name))
    have hZ' := hZ.other (p := ⟨gX, 10, none⟩) gZ_ne.symm (.string (st name))
    have hK' := hKb.setCell (p := ⟨gX, 10, none⟩) (.inl rfl) (.string (st name))
    clear hX hA hZ hKb
    go_upto_region 14 with fail
    generalize Wh0.setCell ⟨gX, 10, none⟩ (.string (st name)) = Wi0 at hX' hA' hZ' hK'
    have HA := Lib.hid hA'
    have HZ := Lib.hid hZ'
    have HX := Lib.hid hX'
    have HK := Lib.hid hK'
    clear hA' hZ' hX' hK' ka ku kf
    go_wp2_with fail
    refine (has_any kind 108 _).mono ?_
    rintro e Wh1 ⟨rfl, hb⟩
    have hX := HX.out.up hb
    have hA := HA.out.up hb
    have hZ := HZ.out.up hb
    have hKb := HK.out.trans (Keeps.of_below hb)
    clear HX HA HZ HK hb
    cases hHL : hasL kind 108 with
    | true =>
      have HL := Lib.hid hHL
      clear hHL
      have ka := hA.cell 11 _ rfl
      have ku := hX.cell 11 _ rfl
      have kf := hX.free 11
      have hX' := hX.set 11 (.slice An nn cn)
      have hA' := hA.other (p := ⟨gX, 11, none⟩) gA_ne.symm (.slice An nn cn)
      have hZ' := hZ.other (p := ⟨gX, 11, none⟩) gZ_ne.symm (.slice An nn cn)
      have hK' := hKb.setCell (p := ⟨gX, 11, none⟩) (.inl rfl) (.slice An nn cn)
      clear hX hA hZ hKb
      go_upto_region 16 with fail
      generalize Wh1.setCell ⟨gX, 11, none⟩ (.slice An nn cn) = Wi1 at hX' hA' hZ' hK'
      have HA := Lib.hid hA'
      have HZ := Lib.hid hZ'
      have HX := Lib.hid hX'
      have HK := Lib.hid hK'
      clear hA' hZ' hX' hK' ka ku kf
      go_wp2_with fail
      refine (has_any kind 100 _).mono ?_
      rintro e Wh2 ⟨rfl, hb⟩
      have hX := HX.out.up hb
      have hA := HA.out.up hb
      have hZ := HZ.out.up hb
      have hKb := HK.out.trans (Keeps.of_below hb)
      clear HX HA HZ HK hb
      cases hHD : hasL kind 100 with
      | true =>
        have HD := Lib.hid hHD
        clear hHD
        have ka := hA.cell 13 _ rfl
        have ku := hX.cell 13 _ rfl
        have kf := hX.free 13
        have hX' := hX.set 13 (.slice Ad nd cd)
        have hA' := hA.other (p := ⟨gX, 13, none⟩) gA_ne.symm (.slice Ad nd cd)
        have hZ' := hZ.other (p := ⟨gX, 13, none⟩) gZ_ne.symm (.slice Ad nd cd)
        have hK' := hKb.setCell (p := ⟨gX, 13, none⟩) (.inl rfl) (.slice Ad nd cd)
        clear hX hA hZ hKb
        go_upto_region 18 with fail
        generalize Wh2.setCell ⟨gX, 13, none⟩ (.slice Ad nd cd) = Wi2 at hX' hA' hZ' hK'
        have HA := Lib.hid hA'
        have HZ := Lib.hid hZ'
        have HX := Lib.hid hX'
        have HK := Lib.hid hK'
        clear hA' hZ' hX' hK' ka ku kf
        have y0 := HX.out.cell 0 _ rfl
        have y1 := HX.out.cell 1 _ rfl
        have y2 := HX.out.cell 2 _ rfl
        have y3 := HX.out.cell 3 _ rfl
        have y4 := HX.out.cell 4 _ rfl
        have y5 := HX.out.cell 5 _ rfl
        have y6 := HX.out.cell 6 _ rfl
        have y7 := HX.out.cell 7 _ rfl
        have y8 := HX.out.cell 8 _ rfl
        have y9 := HX.out.cell 9 _ rfl
        have y10 := HX.out.cell 10 _ rfl
        have y11 := HX.out.cell 11 _ rfl
        have y12 := HX.out.cell 12 _ rfl
        have y13 := HX.out.cell 13 _ rfl
        have hZf := HZ.out
        go_wp2_with (refine wpList_storeBlk rfl (.tmp 2) (.tmp 71) rfl rfl [.int .i64 kind, .int .i64 tag, .int .i64 v2, .int .i64 v3, .int .i64 v4, .int .i64 v5, .int .i64 v6, .int .i64 v7, .int .i64 v8, .int .i64 v9, .string (st name), .slice An nn cn, .int .i64 v12, .slice Ad nd cd] rfl rfl (by kernel_rfl) hZf rfl (by simp [Value.oneCell']) ?_)
        have hF := hZf.setRow [.int .i64 kind, .int .i64 tag, .int .i64 v2, .int .i64 v3, .int .i64 v4, .int .i64 v5, .int .i64 v6, .int .i64 v7, .int .i64 v8, .int .i64 v9, .string (st name), .slice An nn cn, .int .i64 v12, .slice Ad nd cd]
        have z0 := hF.cell 0 _ rfl
        have z1 := hF.cell 1 _ rfl
        have z2 := hF.cell 2 _ rfl
        have z3 := hF.cell 3 _ rfl
        have z4 := hF.cell 4 _ rfl
        have z5 := hF.cell 5 _ rfl
        have z6 := hF.cell 6 _ rfl
        have z7 := hF.cell 7 _ rfl
        have z8 := hF.cell 8 _ rfl
        have z9 := hF.cell 9 _ rfl
        have z10 := hF.cell 10 _ rfl
        have z11 := hF.cell 11 _ rfl
        have z12 := hF.cell 12 _ rfl
        have z13 := hF.cell 13 _ rfl
        have hkF := (HK.out.mono (G' := fun k => k = gZ ∨ k = gX) (fun k _ e => .inr e)).trans ((keeps_setRow (g := gZ) _ #[.int .i64 kind, .int .i64 tag, .int .i64 v2, .int .i64 v3, .int .i64 v4, .int .i64 v5, .int .i64 v6, .int .i64 v7, .int .i64 v8, .int .i64 v9, .string (st name), .slice An nn cn, .int .i64 v12, .slice Ad nd cd]).mono fun k _ e => .inl e)
        have hval : (askC (ownV ⟨kind, tag, fid, nfid, otag, msize, mode, perm, off, count, size, name, names, data⟩) An nn cn Ad nd cd).toArray = #[.int .i64 kind, .int .i64 tag, .int .i64 v2, .int .i64 v3, .int .i64 v4, .int .i64 v5, .int .i64 v6, .int .i64 v7, .int .i64 v8, .int .i64 v9, .string (st name), .slice An nn cn, .int .i64 v12, .slice Ad nd cd] := by
          simp only [askC, ownV]
          rw [hv2.out, hv3.out, hv4.out, hv5.out, hv6.out, hv7.out, hv8.out, hv9.out, hv12.out, HN.out]
          rfl
        exact bodyPost_ret (v := .agg #[.int .i64 kind, .int .i64 tag, .int .i64 v2, .int .i64 v3, .int .i64 v4, .int .i64 v5, .int .i64 v6, .int .i64 v7, .int .i64 v8, .int .i64 v9, .string (st name), .slice An nn cn, .int .i64 v12, .slice Ad nd cd]) (by simp [results, Try.results32, go_sem, z0, z1, z2, z3, z4, z5, z6, z7, z8, z9, z10, z11, z12, z13]) rfl ⟨An, nn, cn, Ad, nd, cd, by rw [hval], Lib.hid (.inl ⟨HL.out, rfl, rfl, rfl⟩), Lib.hid (.inl ⟨HD.out, rfl, rfl, rfl⟩), hkF.under (Nat.le_refl _) (fun k hk e => by rcases e with rfl | rfl <;> omega)⟩
      | false =>
        have HD := Lib.hid hHD
        clear hHD
        have HA := Lib.hid hA
        have HZ := Lib.hid hZ
        have HX := Lib.hid hX
        have HK := Lib.hid hKb
        clear hX hA hZ hKb
        go_upto_region 18 with fail
        have y0 := HX.out.cell 0 _ rfl
        have y1 := HX.out.cell 1 _ rfl
        have y2 := HX.out.cell 2 _ rfl
        have y3 := HX.out.cell 3 _ rfl
        have y4 := HX.out.cell 4 _ rfl
        have y5 := HX.out.cell 5 _ rfl
        have y6 := HX.out.cell 6 _ rfl
        have y7 := HX.out.cell 7 _ rfl
        have y8 := HX.out.cell 8 _ rfl
        have y9 := HX.out.cell 9 _ rfl
        have y10 := HX.out.cell 10 _ rfl
        have y11 := HX.out.cell 11 _ rfl
        have y12 := HX.out.cell 12 _ rfl
        have y13 := HX.out.cell 13 _ rfl
        have hZf := HZ.out
        go_wp2_with (refine wpList_storeBlk rfl (.tmp 2) (.tmp 71) rfl rfl [.int .i64 kind, .int .i64 tag, .int .i64 v2, .int .i64 v3, .int .i64 v4, .int .i64 v5, .int .i64 v6, .int .i64 v7, .int .i64 v8, .int .i64 v9, .string (st name), .slice An nn cn, .int .i64 v12, .slice none 0 0] rfl rfl (by kernel_rfl) hZf rfl (by simp [Value.oneCell']) ?_)
        have hF := hZf.setRow [.int .i64 kind, .int .i64 tag, .int .i64 v2, .int .i64 v3, .int .i64 v4, .int .i64 v5, .int .i64 v6, .int .i64 v7, .int .i64 v8, .int .i64 v9, .string (st name), .slice An nn cn, .int .i64 v12, .slice none 0 0]
        have z0 := hF.cell 0 _ rfl
        have z1 := hF.cell 1 _ rfl
        have z2 := hF.cell 2 _ rfl
        have z3 := hF.cell 3 _ rfl
        have z4 := hF.cell 4 _ rfl
        have z5 := hF.cell 5 _ rfl
        have z6 := hF.cell 6 _ rfl
        have z7 := hF.cell 7 _ rfl
        have z8 := hF.cell 8 _ rfl
        have z9 := hF.cell 9 _ rfl
        have z10 := hF.cell 10 _ rfl
        have z11 := hF.cell 11 _ rfl
        have z12 := hF.cell 12 _ rfl
        have z13 := hF.cell 13 _ rfl
        have hkF := (HK.out.mono (G' := fun k => k = gZ ∨ k = gX) (fun k _ e => .inr e)).trans ((keeps_setRow (g := gZ) _ #[.int .i64 kind, .int .i64 tag, .int .i64 v2, .int .i64 v3, .int .i64 v4, .int .i64 v5, .int .i64 v6, .int .i64 v7, .int .i64 v8, .int .i64 v9, .string (st name), .slice An nn cn, .int .i64 v12, .slice none 0 0]).mono fun k _ e => .inl e)
        have hval : (askC (ownV ⟨kind, tag, fid, nfid, otag, msize, mode, perm, off, count, size, name, names, data⟩) An nn cn none 0 0).toArray = #[.int .i64 kind, .int .i64 tag, .int .i64 v2, .int .i64 v3, .int .i64 v4, .int .i64 v5, .int .i64 v6, .int .i64 v7, .int .i64 v8, .int .i64 v9, .string (st name), .slice An nn cn, .int .i64 v12, .slice none 0 0] := by
          simp only [askC, ownV]
          rw [hv2.out, hv3.out, hv4.out, hv5.out, hv6.out, hv7.out, hv8.out, hv9.out, hv12.out, HN.out]
          rfl
        exact bodyPost_ret (v := .agg #[.int .i64 kind, .int .i64 tag, .int .i64 v2, .int .i64 v3, .int .i64 v4, .int .i64 v5, .int .i64 v6, .int .i64 v7, .int .i64 v8, .int .i64 v9, .string (st name), .slice An nn cn, .int .i64 v12, .slice none 0 0]) (by simp [results, Try.results32, go_sem, z0, z1, z2, z3, z4, z5, z6, z7, z8, z9, z10, z11, z12, z13]) rfl ⟨An, nn, cn, none, 0, 0, by rw [hval], Lib.hid (.inl ⟨HL.out, rfl, rfl, rfl⟩), Lib.hid (.inr ⟨HD.out, rfl, rfl, rfl⟩), hkF.under (Nat.le_refl _) (fun k hk e => by rcases e with rfl | rfl <;> omega)⟩
    | false =>
      have HL := Lib.hid hHL
      clear hHL
      have HA := Lib.hid hA
      have HZ := Lib.hid hZ
      have HX := Lib.hid hX
      have HK := Lib.hid hKb
      clear hX hA hZ hKb
      go_upto_region 16 with fail
      go_wp2_with fail
      refine (has_any kind 100 _).mono ?_
      rintro e Wh2 ⟨rfl, hb⟩
      have hX := HX.out.up hb
      have hA := HA.out.up hb
      have hZ := HZ.out.up hb
      have hKb := HK.out.trans (Keeps.of_below hb)
      clear HX HA HZ HK hb
      cases hHD : hasL kind 100 with
      | true =>
        have HD := Lib.hid hHD
        clear hHD
        have ka := hA.cell 13 _ rfl
        have ku := hX.cell 13 _ rfl
        have kf := hX.free 13
        have hX' := hX.set 13 (.slice Ad nd cd)
        have hA' := hA.other (p := ⟨gX, 13, none⟩) gA_ne.symm (.slice Ad nd cd)
        have hZ' := hZ.other (p := ⟨gX, 13, none⟩) gZ_ne.symm (.slice Ad nd cd)
        have hK' := hKb.setCell (p := ⟨gX, 13, none⟩) (.inl rfl) (.slice Ad nd cd)
        clear hX hA hZ hKb
        go_upto_region 18 with fail
        generalize Wh2.setCell ⟨gX, 13, none⟩ (.slice Ad nd cd) = Wi2 at hX' hA' hZ' hK'
        have HA := Lib.hid hA'
        have HZ := Lib.hid hZ'
        have HX := Lib.hid hX'
        have HK := Lib.hid hK'
        clear hA' hZ' hX' hK' ka ku kf
        have y0 := HX.out.cell 0 _ rfl
        have y1 := HX.out.cell 1 _ rfl
        have y2 := HX.out.cell 2 _ rfl
        have y3 := HX.out.cell 3 _ rfl
        have y4 := HX.out.cell 4 _ rfl
        have y5 := HX.out.cell 5 _ rfl
        have y6 := HX.out.cell 6 _ rfl
        have y7 := HX.out.cell 7 _ rfl
        have y8 := HX.out.cell 8 _ rfl
        have y9 := HX.out.cell 9 _ rfl
        have y10 := HX.out.cell 10 _ rfl
        have y11 := HX.out.cell 11 _ rfl
        have y12 := HX.out.cell 12 _ rfl
        have y13 := HX.out.cell 13 _ rfl
        have hZf := HZ.out
        go_wp2_with (refine wpList_storeBlk rfl (.tmp 2) (.tmp 71) rfl rfl [.int .i64 kind, .int .i64 tag, .int .i64 v2, .int .i64 v3, .int .i64 v4, .int .i64 v5, .int .i64 v6, .int .i64 v7, .int .i64 v8, .int .i64 v9, .string (st name), .slice none 0 0, .int .i64 v12, .slice Ad nd cd] rfl rfl (by kernel_rfl) hZf rfl (by simp [Value.oneCell']) ?_)
        have hF := hZf.setRow [.int .i64 kind, .int .i64 tag, .int .i64 v2, .int .i64 v3, .int .i64 v4, .int .i64 v5, .int .i64 v6, .int .i64 v7, .int .i64 v8, .int .i64 v9, .string (st name), .slice none 0 0, .int .i64 v12, .slice Ad nd cd]
        have z0 := hF.cell 0 _ rfl
        have z1 := hF.cell 1 _ rfl
        have z2 := hF.cell 2 _ rfl
        have z3 := hF.cell 3 _ rfl
        have z4 := hF.cell 4 _ rfl
        have z5 := hF.cell 5 _ rfl
        have z6 := hF.cell 6 _ rfl
        have z7 := hF.cell 7 _ rfl
        have z8 := hF.cell 8 _ rfl
        have z9 := hF.cell 9 _ rfl
        have z10 := hF.cell 10 _ rfl
        have z11 := hF.cell 11 _ rfl
        have z12 := hF.cell 12 _ rfl
        have z13 := hF.cell 13 _ rfl
        have hkF := (HK.out.mono (G' := fun k => k = gZ ∨ k = gX) (fun k _ e => .inr e)).trans ((keeps_setRow (g := gZ) _ #[.int .i64 kind, .int .i64 tag, .int .i64 v2, .int .i64 v3, .int .i64 v4, .int .i64 v5, .int .i64 v6, .int .i64 v7, .int .i64 v8, .int .i64 v9, .string (st name), .slice none 0 0, .int .i64 v12, .slice Ad nd cd]).mono fun k _ e => .inl e)
        have hval : (askC (ownV ⟨kind, tag, fid, nfid, otag, msize, mode, perm, off, count, size, name, names, data⟩) none 0 0 Ad nd cd).toArray = #[.int .i64 kind, .int .i64 tag, .int .i64 v2, .int .i64 v3, .int .i64 v4, .int .i64 v5, .int .i64 v6, .int .i64 v7, .int .i64 v8, .int .i64 v9, .string (st name), .slice none 0 0, .int .i64 v12, .slice Ad nd cd] := by
          simp only [askC, ownV]
          rw [hv2.out, hv3.out, hv4.out, hv5.out, hv6.out, hv7.out, hv8.out, hv9.out, hv12.out, HN.out]
          rfl
        exact bodyPost_ret (v := .agg #[.int .i64 kind, .int .i64 tag, .int .i64 v2, .int .i64 v3, .int .i64 v4, .int .i64 v5, .int .i64 v6, .int .i64 v7, .int .i64 v8, .int .i64 v9, .string (st name), .slice none 0 0, .int .i64 v12, .slice Ad nd cd]) (by simp [results, Try.results32, go_sem, z0, z1, z2, z3, z4, z5, z6, z7, z8, z9, z10, z11, z12, z13]) rfl ⟨none, 0, 0, Ad, nd, cd, by rw [hval], Lib.hid (.inr ⟨HL.out, rfl, rfl, rfl⟩), Lib.hid (.inl ⟨HD.out, rfl, rfl, rfl⟩), hkF.under (Nat.le_refl _) (fun k hk e => by rcases e with rfl | rfl <;> omega)⟩
      | false =>
        have HD := Lib.hid hHD
        clear hHD
        have HA := Lib.hid hA
        have HZ := Lib.hid hZ
        have HX := Lib.hid hX
        have HK := Lib.hid hKb
        clear hX hA hZ hKb
        go_upto_region 18 with fail
        have y0 := HX.out.cell 0 _ rfl
        have y1 := HX.out.cell 1 _ rfl
        have y2 := HX.out.cell 2 _ rfl
        have y3 := HX.out.cell 3 _ rfl
        have y4 := HX.out.cell 4 _ rfl
        have y5 := HX.out.cell 5 _ rfl
        have y6 := HX.out.cell 6 _ rfl
        have y7 := HX.out.cell 7 _ rfl
        have y8 := HX.out.cell 8 _ rfl
        have y9 := HX.out.cell 9 _ rfl
        have y10 := HX.out.cell 10 _ rfl
        have y11 := HX.out.cell 11 _ rfl
        have y12 := HX.out.cell 12 _ rfl
        have y13 := HX.out.cell 13 _ rfl
        have hZf := HZ.out
        go_wp2_with (refine wpList_storeBlk rfl (.tmp 2) (.tmp 71) rfl rfl [.int .i64 kind, .int .i64 tag, .int .i64 v2, .int .i64 v3, .int .i64 v4, .int .i64 v5, .int .i64 v6, .int .i64 v7, .int .i64 v8, .int .i64 v9, .string (st name), .slice none 0 0, .int .i64 v12, .slice none 0 0] rfl rfl (by kernel_rfl) hZf rfl (by simp [Value.oneCell']) ?_)
        have hF := hZf.setRow [.int .i64 kind, .int .i64 tag, .int .i64 v2, .int .i64 v3, .int .i64 v4, .int .i64 v5, .int .i64 v6, .int .i64 v7, .int .i64 v8, .int .i64 v9, .string (st name), .slice none 0 0, .int .i64 v12, .slice none 0 0]
        have z0 := hF.cell 0 _ rfl
        have z1 := hF.cell 1 _ rfl
        have z2 := hF.cell 2 _ rfl
        have z3 := hF.cell 3 _ rfl
        have z4 := hF.cell 4 _ rfl
        have z5 := hF.cell 5 _ rfl
        have z6 := hF.cell 6 _ rfl
        have z7 := hF.cell 7 _ rfl
        have z8 := hF.cell 8 _ rfl
        have z9 := hF.cell 9 _ rfl
        have z10 := hF.cell 10 _ rfl
        have z11 := hF.cell 11 _ rfl
        have z12 := hF.cell 12 _ rfl
        have z13 := hF.cell 13 _ rfl
        have hkF := (HK.out.mono (G' := fun k => k = gZ ∨ k = gX) (fun k _ e => .inr e)).trans ((keeps_setRow (g := gZ) _ #[.int .i64 kind, .int .i64 tag, .int .i64 v2, .int .i64 v3, .int .i64 v4, .int .i64 v5, .int .i64 v6, .int .i64 v7, .int .i64 v8, .int .i64 v9, .string (st name), .slice none 0 0, .int .i64 v12, .slice none 0 0]).mono fun k _ e => .inl e)
        have hval : (askC (ownV ⟨kind, tag, fid, nfid, otag, msize, mode, perm, off, count, size, name, names, data⟩) none 0 0 none 0 0).toArray = #[.int .i64 kind, .int .i64 tag, .int .i64 v2, .int .i64 v3, .int .i64 v4, .int .i64 v5, .int .i64 v6, .int .i64 v7, .int .i64 v8, .int .i64 v9, .string (st name), .slice none 0 0, .int .i64 v12, .slice none 0 0] := by
          simp only [askC, ownV]
          rw [hv2.out, hv3.out, hv4.out, hv5.out, hv6.out, hv7.out, hv8.out, hv9.out, hv12.out, HN.out]
          rfl
        exact bodyPost_ret (v := .agg #[.int .i64 kind, .int .i64 tag, .int .i64 v2, .int .i64 v3, .int .i64 v4, .int .i64 v5, .int .i64 v6, .int .i64 v7, .int .i64 v8, .int .i64 v9, .string (st name), .slice none 0 0, .int .i64 v12, .slice none 0 0]) (by simp [results, Try.results32, go_sem, z0, z1, z2, z3, z4, z5, z6, z7, z8, z9, z10, z11, z12, z13]) rfl ⟨none, 0, 0, none, 0, 0, by rw [hval], Lib.hid (.inr ⟨HL.out, rfl, rfl, rfl⟩), Lib.hid (.inr ⟨HD.out, rfl, rfl, rfl⟩), hkF.under (Nat.le_refl _) (fun k hk e => by rcases e with rfl | rfl <;> omega)⟩
  | false =>
    have HN := Lib.hid hHN
    clear hHN
    have HA := Lib.hid hA
    have HZ := Lib.hid hZ
    have HX := Lib.hid hX
    have HK := Lib.hid hKb
    clear hX hA hZ hKb
    go_upto_region 14 with fail
    go_wp2_with fail
    refine (has_any kind 108 _).mono ?_
    rintro e Wh1 ⟨rfl, hb⟩
    have hX := HX.out.up hb
    have hA := HA.out.up hb
    have hZ := HZ.out.up hb
    have hKb := HK.out.trans (Keeps.of_below hb)
    clear HX HA HZ HK hb
    cases hHL : hasL kind 108 with
    | true =>
      have HL := Lib.hid hHL
      clear hHL
      have ka := hA.cell 11 _ rfl
      have ku := hX.cell 11 _ rfl
      have kf := hX.free 11
      have hX' := hX.set 11 (.slice An nn cn)
      have hA' := hA.other (p := ⟨gX, 11, none⟩) gA_ne.symm (.slice An nn cn)
      have hZ' := hZ.other (p := ⟨gX, 11, none⟩) gZ_ne.symm (.slice An nn cn)
      have hK' := hKb.setCell (p := ⟨gX, 11, none⟩) (.inl rfl) (.slice An nn cn)
      clear hX hA hZ hKb
      go_upto_region 16 with fail
      generalize Wh1.setCell ⟨gX, 11, none⟩ (.slice An nn cn) = Wi1 at hX' hA' hZ' hK'
      have HA := Lib.hid hA'
      have HZ := Lib.hid hZ'
      have HX := Lib.hid hX'
      have HK := Lib.hid hK'
      clear hA' hZ' hX' hK' ka ku kf
      go_wp2_with fail
      refine (has_any kind 100 _).mono ?_
      rintro e Wh2 ⟨rfl, hb⟩
      have hX := HX.out.up hb
      have hA := HA.out.up hb
      have hZ := HZ.out.up hb
      have hKb := HK.out.trans (Keeps.of_below hb)
      clear HX HA HZ HK hb
      cases hHD : hasL kind 100 with
      | true =>
        have HD := Lib.hid hHD
        clear hHD
        have ka := hA.cell 13 _ rfl
        have ku := hX.cell 13 _ rfl
        have kf := hX.free 13
        have hX' := hX.set 13 (.slice Ad nd cd)
        have hA' := hA.other (p := ⟨gX, 13, none⟩) gA_ne.symm (.slice Ad nd cd)
        have hZ' := hZ.other (p := ⟨gX, 13, none⟩) gZ_ne.symm (.slice Ad nd cd)
        have hK' := hKb.setCell (p := ⟨gX, 13, none⟩) (.inl rfl) (.slice Ad nd cd)
        clear hX hA hZ hKb
        go_upto_region 18 with fail
        generalize Wh2.setCell ⟨gX, 13, none⟩ (.slice Ad nd cd) = Wi2 at hX' hA' hZ' hK'
        have HA := Lib.hid hA'
        have HZ := Lib.hid hZ'
        have HX := Lib.hid hX'
        have HK := Lib.hid hK'
        clear hA' hZ' hX' hK' ka ku kf
        have y0 := HX.out.cell 0 _ rfl
        have y1 := HX.out.cell 1 _ rfl
        have y2 := HX.out.cell 2 _ rfl
        have y3 := HX.out.cell 3 _ rfl
        have y4 := HX.out.cell 4 _ rfl
        have y5 := HX.out.cell 5 _ rfl
        have y6 := HX.out.cell 6 _ rfl
        have y7 := HX.out.cell 7 _ rfl
        have y8 := HX.out.cell 8 _ rfl
        have y9 := HX.out.cell 9 _ rfl
        have y10 := HX.out.cell 10 _ rfl
        have y11 := HX.out.cell 11 _ rfl
        have y12 := HX.out.cell 12 _ rfl
        have y13 := HX.out.cell 13 _ rfl
        have hZf := HZ.out
        go_wp2_with (refine wpList_storeBlk rfl (.tmp 2) (.tmp 71) rfl rfl [.int .i64 kind, .int .i64 tag, .int .i64 v2, .int .i64 v3, .int .i64 v4, .int .i64 v5, .int .i64 v6, .int .i64 v7, .int .i64 v8, .int .i64 v9, .string ByteArray.empty, .slice An nn cn, .int .i64 v12, .slice Ad nd cd] rfl rfl (by kernel_rfl) hZf rfl (by simp [Value.oneCell']) ?_)
        have hF := hZf.setRow [.int .i64 kind, .int .i64 tag, .int .i64 v2, .int .i64 v3, .int .i64 v4, .int .i64 v5, .int .i64 v6, .int .i64 v7, .int .i64 v8, .int .i64 v9, .string ByteArray.empty, .slice An nn cn, .int .i64 v12, .slice Ad nd cd]
        have z0 := hF.cell 0 _ rfl
        have z1 := hF.cell 1 _ rfl
        have z2 := hF.cell 2 _ rfl
        have z3 := hF.cell 3 _ rfl
        have z4 := hF.cell 4 _ rfl
        have z5 := hF.cell 5 _ rfl
        have z6 := hF.cell 6 _ rfl
        have z7 := hF.cell 7 _ rfl
        have z8 := hF.cell 8 _ rfl
        have z9 := hF.cell 9 _ rfl
        have z10 := hF.cell 10 _ rfl
        have z11 := hF.cell 11 _ rfl
        have z12 := hF.cell 12 _ rfl
        have z13 := hF.cell 13 _ rfl
        have hkF := (HK.out.mono (G' := fun k => k = gZ ∨ k = gX) (fun k _ e => .inr e)).trans ((keeps_setRow (g := gZ) _ #[.int .i64 kind, .int .i64 tag, .int .i64 v2, .int .i64 v3, .int .i64 v4, .int .i64 v5, .int .i64 v6, .int .i64 v7, .int .i64 v8, .int .i64 v9, .string ByteArray.empty, .slice An nn cn, .int .i64 v12, .slice Ad nd cd]).mono fun k _ e => .inl e)
        have hval : (askC (ownV ⟨kind, tag, fid, nfid, otag, msize, mode, perm, off, count, size, name, names, data⟩) An nn cn Ad nd cd).toArray = #[.int .i64 kind, .int .i64 tag, .int .i64 v2, .int .i64 v3, .int .i64 v4, .int .i64 v5, .int .i64 v6, .int .i64 v7, .int .i64 v8, .int .i64 v9, .string ByteArray.empty, .slice An nn cn, .int .i64 v12, .slice Ad nd cd] := by
          simp only [askC, ownV]
          rw [hv2.out, hv3.out, hv4.out, hv5.out, hv6.out, hv7.out, hv8.out, hv9.out, hv12.out, HN.out]
          rfl
        exact bodyPost_ret (v := .agg #[.int .i64 kind, .int .i64 tag, .int .i64 v2, .int .i64 v3, .int .i64 v4, .int .i64 v5, .int .i64 v6, .int .i64 v7, .int .i64 v8, .int .i64 v9, .string ByteArray.empty, .slice An nn cn, .int .i64 v12, .slice Ad nd cd]) (by simp [results, Try.results32, go_sem, z0, z1, z2, z3, z4, z5, z6, z7, z8, z9, z10, z11, z12, z13]) rfl ⟨An, nn, cn, Ad, nd, cd, by rw [hval], Lib.hid (.inl ⟨HL.out, rfl, rfl, rfl⟩), Lib.hid (.inl ⟨HD.out, rfl, rfl, rfl⟩), hkF.under (Nat.le_refl _) (fun k hk e => by rcases e with rfl | rfl <;> omega)⟩
      | false =>
        have HD := Lib.hid hHD
        clear hHD
        have HA := Lib.hid hA
        have HZ := Lib.hid hZ
        have HX := Lib.hid hX
        have HK := Lib.hid hKb
        clear hX hA hZ hKb
        go_upto_region 18 with fail
        have y0 := HX.out.cell 0 _ rfl
        have y1 := HX.out.cell 1 _ rfl
        have y2 := HX.out.cell 2 _ rfl
        have y3 := HX.out.cell 3 _ rfl
        have y4 := HX.out.cell 4 _ rfl
        have y5 := HX.out.cell 5 _ rfl
        have y6 := HX.out.cell 6 _ rfl
        have y7 := HX.out.cell 7 _ rfl
        have y8 := HX.out.cell 8 _ rfl
        have y9 := HX.out.cell 9 _ rfl
        have y10 := HX.out.cell 10 _ rfl
        have y11 := HX.out.cell 11 _ rfl
        have y12 := HX.out.cell 12 _ rfl
        have y13 := HX.out.cell 13 _ rfl
        have hZf := HZ.out
        go_wp2_with (refine wpList_storeBlk rfl (.tmp 2) (.tmp 71) rfl rfl [.int .i64 kind, .int .i64 tag, .int .i64 v2, .int .i64 v3, .int .i64 v4, .int .i64 v5, .int .i64 v6, .int .i64 v7, .int .i64 v8, .int .i64 v9, .string ByteArray.empty, .slice An nn cn, .int .i64 v12, .slice none 0 0] rfl rfl (by kernel_rfl) hZf rfl (by simp [Value.oneCell']) ?_)
        have hF := hZf.setRow [.int .i64 kind, .int .i64 tag, .int .i64 v2, .int .i64 v3, .int .i64 v4, .int .i64 v5, .int .i64 v6, .int .i64 v7, .int .i64 v8, .int .i64 v9, .string ByteArray.empty, .slice An nn cn, .int .i64 v12, .slice none 0 0]
        have z0 := hF.cell 0 _ rfl
        have z1 := hF.cell 1 _ rfl
        have z2 := hF.cell 2 _ rfl
        have z3 := hF.cell 3 _ rfl
        have z4 := hF.cell 4 _ rfl
        have z5 := hF.cell 5 _ rfl
        have z6 := hF.cell 6 _ rfl
        have z7 := hF.cell 7 _ rfl
        have z8 := hF.cell 8 _ rfl
        have z9 := hF.cell 9 _ rfl
        have z10 := hF.cell 10 _ rfl
        have z11 := hF.cell 11 _ rfl
        have z12 := hF.cell 12 _ rfl
        have z13 := hF.cell 13 _ rfl
        have hkF := (HK.out.mono (G' := fun k => k = gZ ∨ k = gX) (fun k _ e => .inr e)).trans ((keeps_setRow (g := gZ) _ #[.int .i64 kind, .int .i64 tag, .int .i64 v2, .int .i64 v3, .int .i64 v4, .int .i64 v5, .int .i64 v6, .int .i64 v7, .int .i64 v8, .int .i64 v9, .string ByteArray.empty, .slice An nn cn, .int .i64 v12, .slice none 0 0]).mono fun k _ e => .inl e)
        have hval : (askC (ownV ⟨kind, tag, fid, nfid, otag, msize, mode, perm, off, count, size, name, names, data⟩) An nn cn none 0 0).toArray = #[.int .i64 kind, .int .i64 tag, .int .i64 v2, .int .i64 v3, .int .i64 v4, .int .i64 v5, .int .i64 v6, .int .i64 v7, .int .i64 v8, .int .i64 v9, .string ByteArray.empty, .slice An nn cn, .int .i64 v12, .slice none 0 0] := by
          simp only [askC, ownV]
          rw [hv2.out, hv3.out, hv4.out, hv5.out, hv6.out, hv7.out, hv8.out, hv9.out, hv12.out, HN.out]
          rfl
        exact bodyPost_ret (v := .agg #[.int .i64 kind, .int .i64 tag, .int .i64 v2, .int .i64 v3, .int .i64 v4, .int .i64 v5, .int .i64 v6, .int .i64 v7, .int .i64 v8, .int .i64 v9, .string ByteArray.empty, .slice An nn cn, .int .i64 v12, .slice none 0 0]) (by simp [results, Try.results32, go_sem, z0, z1, z2, z3, z4, z5, z6, z7, z8, z9, z10, z11, z12, z13]) rfl ⟨An, nn, cn, none, 0, 0, by rw [hval], Lib.hid (.inl ⟨HL.out, rfl, rfl, rfl⟩), Lib.hid (.inr ⟨HD.out, rfl, rfl, rfl⟩), hkF.under (Nat.le_refl _) (fun k hk e => by rcases e with rfl | rfl <;> omega)⟩
    | false =>
      have HL := Lib.hid hHL
      clear hHL
      have HA := Lib.hid hA
      have HZ := Lib.hid hZ
      have HX := Lib.hid hX
      have HK := Lib.hid hKb
      clear hX hA hZ hKb
      go_upto_region 16 with fail
      go_wp2_with fail
      refine (has_any kind 100 _).mono ?_
      rintro e Wh2 ⟨rfl, hb⟩
      have hX := HX.out.up hb
      have hA := HA.out.up hb
      have hZ := HZ.out.up hb
      have hKb := HK.out.trans (Keeps.of_below hb)
      clear HX HA HZ HK hb
      cases hHD : hasL kind 100 with
      | true =>
        have HD := Lib.hid hHD
        clear hHD
        have ka := hA.cell 13 _ rfl
        have ku := hX.cell 13 _ rfl
        have kf := hX.free 13
        have hX' := hX.set 13 (.slice Ad nd cd)
        have hA' := hA.other (p := ⟨gX, 13, none⟩) gA_ne.symm (.slice Ad nd cd)
        have hZ' := hZ.other (p := ⟨gX, 13, none⟩) gZ_ne.symm (.slice Ad nd cd)
        have hK' := hKb.setCell (p := ⟨gX, 13, none⟩) (.inl rfl) (.slice Ad nd cd)
        clear hX hA hZ hKb
        go_upto_region 18 with fail
        generalize Wh2.setCell ⟨gX, 13, none⟩ (.slice Ad nd cd) = Wi2 at hX' hA' hZ' hK'
        have HA := Lib.hid hA'
        have HZ := Lib.hid hZ'
        have HX := Lib.hid hX'
        have HK := Lib.hid hK'
        clear hA' hZ' hX' hK' ka ku kf
        have y0 := HX.out.cell 0 _ rfl
        have y1 := HX.out.cell 1 _ rfl
        have y2 := HX.out.cell 2 _ rfl
        have y3 := HX.out.cell 3 _ rfl
        have y4 := HX.out.cell 4 _ rfl
        have y5 := HX.out.cell 5 _ rfl
        have y6 := HX.out.cell 6 _ rfl
        have y7 := HX.out.cell 7 _ rfl
        have y8 := HX.out.cell 8 _ rfl
        have y9 := HX.out.cell 9 _ rfl
        have y10 := HX.out.cell 10 _ rfl
        have y11 := HX.out.cell 11 _ rfl
        have y12 := HX.out.cell 12 _ rfl
        have y13 := HX.out.cell 13 _ rfl
        have hZf := HZ.out
        go_wp2_with (refine wpList_storeBlk rfl (.tmp 2) (.tmp 71) rfl rfl [.int .i64 kind, .int .i64 tag, .int .i64 v2, .int .i64 v3, .int .i64 v4, .int .i64 v5, .int .i64 v6, .int .i64 v7, .int .i64 v8, .int .i64 v9, .string ByteArray.empty, .slice none 0 0, .int .i64 v12, .slice Ad nd cd] rfl rfl (by kernel_rfl) hZf rfl (by simp [Value.oneCell']) ?_)
        have hF := hZf.setRow [.int .i64 kind, .int .i64 tag, .int .i64 v2, .int .i64 v3, .int .i64 v4, .int .i64 v5, .int .i64 v6, .int .i64 v7, .int .i64 v8, .int .i64 v9, .string ByteArray.empty, .slice none 0 0, .int .i64 v12, .slice Ad nd cd]
        have z0 := hF.cell 0 _ rfl
        have z1 := hF.cell 1 _ rfl
        have z2 := hF.cell 2 _ rfl
        have z3 := hF.cell 3 _ rfl
        have z4 := hF.cell 4 _ rfl
        have z5 := hF.cell 5 _ rfl
        have z6 := hF.cell 6 _ rfl
        have z7 := hF.cell 7 _ rfl
        have z8 := hF.cell 8 _ rfl
        have z9 := hF.cell 9 _ rfl
        have z10 := hF.cell 10 _ rfl
        have z11 := hF.cell 11 _ rfl
        have z12 := hF.cell 12 _ rfl
        have z13 := hF.cell 13 _ rfl
        have hkF := (HK.out.mono (G' := fun k => k = gZ ∨ k = gX) (fun k _ e => .inr e)).trans ((keeps_setRow (g := gZ) _ #[.int .i64 kind, .int .i64 tag, .int .i64 v2, .int .i64 v3, .int .i64 v4, .int .i64 v5, .int .i64 v6, .int .i64 v7, .int .i64 v8, .int .i64 v9, .string ByteArray.empty, .slice none 0 0, .int .i64 v12, .slice Ad nd cd]).mono fun k _ e => .inl e)
        have hval : (askC (ownV ⟨kind, tag, fid, nfid, otag, msize, mode, perm, off, count, size, name, names, data⟩) none 0 0 Ad nd cd).toArray = #[.int .i64 kind, .int .i64 tag, .int .i64 v2, .int .i64 v3, .int .i64 v4, .int .i64 v5, .int .i64 v6, .int .i64 v7, .int .i64 v8, .int .i64 v9, .string ByteArray.empty, .slice none 0 0, .int .i64 v12, .slice Ad nd cd] := by
          simp only [askC, ownV]
          rw [hv2.out, hv3.out, hv4.out, hv5.out, hv6.out, hv7.out, hv8.out, hv9.out, hv12.out, HN.out]
          rfl
        exact bodyPost_ret (v := .agg #[.int .i64 kind, .int .i64 tag, .int .i64 v2, .int .i64 v3, .int .i64 v4, .int .i64 v5, .int .i64 v6, .int .i64 v7, .int .i64 v8, .int .i64 v9, .string ByteArray.empty, .slice none 0 0, .int .i64 v12, .slice Ad nd cd]) (by simp [results, Try.results32, go_sem, z0, z1, z2, z3, z4, z5, z6, z7, z8, z9, z10, z11, z12, z13]) rfl ⟨none, 0, 0, Ad, nd, cd, by rw [hval], Lib.hid (.inr ⟨HL.out, rfl, rfl, rfl⟩), Lib.hid (.inl ⟨HD.out, rfl, rfl, rfl⟩), hkF.under (Nat.le_refl _) (fun k hk e => by rcases e with rfl | rfl <;> omega)⟩
      | false =>
        have HD := Lib.hid hHD
        clear hHD
        have HA := Lib.hid hA
        have HZ := Lib.hid hZ
        have HX := Lib.hid hX
        have HK := Lib.hid hKb
        clear hX hA hZ hKb
        go_upto_region 18 with fail
        have y0 := HX.out.cell 0 _ rfl
        have y1 := HX.out.cell 1 _ rfl
        have y2 := HX.out.cell 2 _ rfl
        have y3 := HX.out.cell 3 _ rfl
        have y4 := HX.out.cell 4 _ rfl
        have y5 := HX.out.cell 5 _ rfl
        have y6 := HX.out.cell 6 _ rfl
        have y7 := HX.out.cell 7 _ rfl
        have y8 := HX.out.cell 8 _ rfl
        have y9 := HX.out.cell 9 _ rfl
        have y10 := HX.out.cell 10 _ rfl
        have y11 := HX.out.cell 11 _ rfl
        have y12 := HX.out.cell 12 _ rfl
        have y13 := HX.out.cell 13 _ rfl
        have hZf := HZ.out
        go_wp2_with (refine wpList_storeBlk rfl (.tmp 2) (.tmp 71) rfl rfl [.int .i64 kind, .int .i64 tag, .int .i64 v2, .int .i64 v3, .int .i64 v4, .int .i64 v5, .int .i64 v6, .int .i64 v7, .int .i64 v8, .int .i64 v9, .string ByteArray.empty, .slice none 0 0, .int .i64 v12, .slice none 0 0] rfl rfl (by kernel_rfl) hZf rfl (by simp [Value.oneCell']) ?_)
        have hF := hZf.setRow [.int .i64 kind, .int .i64 tag, .int .i64 v2, .int .i64 v3, .int .i64 v4, .int .i64 v5, .int .i64 v6, .int .i64 v7, .int .i64 v8, .int .i64 v9, .string ByteArray.empty, .slice none 0 0, .int .i64 v12, .slice none 0 0]
        have z0 := hF.cell 0 _ rfl
        have z1 := hF.cell 1 _ rfl
        have z2 := hF.cell 2 _ rfl
        have z3 := hF.cell 3 _ rfl
        have z4 := hF.cell 4 _ rfl
        have z5 := hF.cell 5 _ rfl
        have z6 := hF.cell 6 _ rfl
        have z7 := hF.cell 7 _ rfl
        have z8 := hF.cell 8 _ rfl
        have z9 := hF.cell 9 _ rfl
        have z10 := hF.cell 10 _ rfl
        have z11 := hF.cell 11 _ rfl
        have z12 := hF.cell 12 _ rfl
        have z13 := hF.cell 13 _ rfl
        have hkF := (HK.out.mono (G' := fun k => k = gZ ∨ k = gX) (fun k _ e => .inr e)).trans ((keeps_setRow (g := gZ) _ #[.int .i64 kind, .int .i64 tag, .int .i64 v2, .int .i64 v3, .int .i64 v4, .int .i64 v5, .int .i64 v6, .int .i64 v7, .int .i64 v8, .int .i64 v9, .string ByteArray.empty, .slice none 0 0, .int .i64 v12, .slice none 0 0]).mono fun k _ e => .inl e)
        have hval : (askC (ownV ⟨kind, tag, fid, nfid, otag, msize, mode, perm, off, count, size, name, names, data⟩) none 0 0 none 0 0).toArray = #[.int .i64 kind, .int .i64 tag, .int .i64 v2, .int .i64 v3, .int .i64 v4, .int .i64 v5, .int .i64 v6, .int .i64 v7, .int .i64 v8, .int .i64 v9, .string ByteArray.empty, .slice none 0 0, .int .i64 v12, .slice none 0 0] := by
          simp only [askC, ownV]
          rw [hv2.out, hv3.out, hv4.out, hv5.out, hv6.out, hv7.out, hv8.out, hv9.out, hv12.out, HN.out]
          rfl
        exact bodyPost_ret (v := .agg #[.int .i64 kind, .int .i64 tag, .int .i64 v2, .int .i64 v3, .int .i64 v4, .int .i64 v5, .int .i64 v6, .int .i64 v7, .int .i64 v8, .int .i64 v9, .string ByteArray.empty, .slice none 0 0, .int .i64 v12, .slice none 0 0]) (by simp [results, Try.results32, go_sem, z0, z1, z2, z3, z4, z5, z6, z7, z8, z9, z10, z11, z12, z13]) rfl ⟨none, 0, 0, none, 0, 0, by rw [hval], Lib.hid (.inr ⟨HL.out, rfl, rfl, rfl⟩), Lib.hid (.inr ⟨HD.out, rfl, rfl, rfl⟩), hkF.under (Nat.le_refl _) (fun k hk e => by rcases e with rfl | rfl <;> omega)⟩
end Go.Proofs.Ytgogdgpdkkbfhaa
