/-
  Package name: Print.
-/
import Derived.Test.YtipmeclcamllbaaName
import Derived.Test.YtipmeclcamllbaaNameP
import Derived.Test.YtipmeclcamllbaaBytesB
import Derived.Deep.RegionHeld3
namespace Go.Proofs.Ytipmeclcamllbaa
open Go.RowKit
set_option linter.unusedVariables false

theorem idx0 (w : World) : (Instr.index 9 (.string { data := #[48, 49, 50, 51, 52, 53, 54, 55, 56, 57, 97, 98, 99, 100, 101, 102] }) (.int .u8 0)).run Try.prog w = .ok (.int .u8 ((hexd 0).toNat : Int)) w := by kernel_rfl
theorem idx1 (w : World) : (Instr.index 9 (.string { data := #[48, 49, 50, 51, 52, 53, 54, 55, 56, 57, 97, 98, 99, 100, 101, 102] }) (.int .u8 1)).run Try.prog w = .ok (.int .u8 ((hexd 1).toNat : Int)) w := by kernel_rfl
theorem idx2 (w : World) : (Instr.index 9 (.string { data := #[48, 49, 50, 51, 52, 53, 54, 55, 56, 57, 97, 98, 99, 100, 101, 102] }) (.int .u8 2)).run Try.prog w = .ok (.int .u8 ((hexd 2).toNat : Int)) w := by kernel_rfl
theorem idx3 (w : World) : (Instr.index 9 (.string { data := #[48, 49, 50, 51, 52, 53, 54, 55, 56, 57, 97, 98, 99, 100, 101, 102] }) (.int .u8 3)).run Try.prog w = .ok (.int .u8 ((hexd 3).toNat : Int)) w := by kernel_rfl
theorem idx4 (w : World) : (Instr.index 9 (.string { data := #[48, 49, 50, 51, 52, 53, 54, 55, 56, 57, 97, 98, 99, 100, 101, 102] }) (.int .u8 4)).run Try.prog w = .ok (.int .u8 ((hexd 4).toNat : Int)) w := by kernel_rfl
theorem idx5 (w : World) : (Instr.index 9 (.string { data := #[48, 49, 50, 51, 52, 53, 54, 55, 56, 57, 97, 98, 99, 100, 101, 102] }) (.int .u8 5)).run Try.prog w = .ok (.int .u8 ((hexd 5).toNat : Int)) w := by kernel_rfl
theorem idx6 (w : World) : (Instr.index 9 (.string { data := #[48, 49, 50, 51, 52, 53, 54, 55, 56, 57, 97, 98, 99, 100, 101, 102] }) (.int .u8 6)).run Try.prog w = .ok (.int .u8 ((hexd 6).toNat : Int)) w := by kernel_rfl
theorem idx7 (w : World) : (Instr.index 9 (.string { data := #[48, 49, 50, 51, 52, 53, 54, 55, 56, 57, 97, 98, 99, 100, 101, 102] }) (.int .u8 7)).run Try.prog w = .ok (.int .u8 ((hexd 7).toNat : Int)) w := by kernel_rfl
theorem idx8 (w : World) : (Instr.index 9 (.string { data := #[48, 49, 50, 51, 52, 53, 54, 55, 56, 57, 97, 98, 99, 100, 101, 102] }) (.int .u8 8)).run Try.prog w = .ok (.int .u8 ((hexd 8).toNat : Int)) w := by kernel_rfl
theorem idx9 (w : World) : (Instr.index 9 (.string { data := #[48, 49, 50, 51, 52, 53, 54, 55, 56, 57, 97, 98, 99, 100, 101, 102] }) (.int .u8 9)).run Try.prog w = .ok (.int .u8 ((hexd 9).toNat : Int)) w := by kernel_rfl
theorem idx10 (w : World) : (Instr.index 9 (.string { data := #[48, 49, 50, 51, 52, 53, 54, 55, 56, 57, 97, 98, 99, 100, 101, 102] }) (.int .u8 10)).run Try.prog w = .ok (.int .u8 ((hexd 10).toNat : Int)) w := by kernel_rfl
theorem idx11 (w : World) : (Instr.index 9 (.string { data := #[48, 49, 50, 51, 52, 53, 54, 55, 56, 57, 97, 98, 99, 100, 101, 102] }) (.int .u8 11)).run Try.prog w = .ok (.int .u8 ((hexd 11).toNat : Int)) w := by kernel_rfl
theorem idx12 (w : World) : (Instr.index 9 (.string { data := #[48, 49, 50, 51, 52, 53, 54, 55, 56, 57, 97, 98, 99, 100, 101, 102] }) (.int .u8 12)).run Try.prog w = .ok (.int .u8 ((hexd 12).toNat : Int)) w := by kernel_rfl
theorem idx13 (w : World) : (Instr.index 9 (.string { data := #[48, 49, 50, 51, 52, 53, 54, 55, 56, 57, 97, 98, 99, 100, 101, 102] }) (.int .u8 13)).run Try.prog w = .ok (.int .u8 ((hexd 13).toNat : Int)) w := by kernel_rfl
theorem idx14 (w : World) : (Instr.index 9 (.string { data := #[48, 49, 50, 51, 52, 53, 54, 55, 56, 57, 97, 98, 99, 100, 101, 102] }) (.int .u8 14)).run Try.prog w = .ok (.int .u8 ((hexd 14).toNat : Int)) w := by kernel_rfl
theorem idx15 (w : World) : (Instr.index 9 (.string { data := #[48, 49, 50, 51, 52, 53, 54, 55, 56, 57, 97, 98, 99, 100, 101, 102] }) (.int .u8 15)).run Try.prog w = .ok (.int .u8 ((hexd 15).toNat : Int)) w := by kernel_rfl
theorem idx_digs (n : Nat) (h : n < 16) (w : World) : (Instr.index 9 (.string { data := #[48, 49, 50, 51, 52, 53, 54, 55, 56, 57, 97, 98, 99, 100, 101, 102] }) (.int .u8 (n : Int))).run Try.prog w = .ok (.int .u8 ((hexd n).toNat : Int)) w := by
  have : n = 0 ∨ n = 1 ∨ n = 2 ∨ n = 3 ∨ n = 4 ∨ n = 5 ∨ n = 6 ∨ n = 7 ∨ n = 8 ∨ n = 9 ∨ n = 10 ∨ n = 11 ∨ n = 12 ∨ n = 13 ∨ n = 14 ∨ n = 15 := by omega
  rcases this with rfl | rfl | rfl | rfl | rfl | rfl | rfl | rfl | rfl | rfl | rfl | rfl | rfl | rfl | rfl | rfl
  · exact idx0 w
  · exact idx1 w
  · exact idx2 w
  · exact idx3 w
  · exact idx4 w
  · exact idx5 w
  · exact idx6 w
  · exact idx7 w
  · exact idx8 w
  · exact idx9 w
  · exact idx10 w
  · exact idx11 w
  · exact idx12 w
  · exact idx13 w
  · exact idx14 w
  · exact idx15 w
theorem idx_hi (x : UInt8) (w : World) : (Instr.index 9 (.string { data := #[48, 49, 50, 51, 52, 53, 54, 55, 56, 57, 97, 98, 99, 100, 101, 102] }) (.int .u8 ((x.toNat : Int) / 16))).run Try.prog w = .ok (.int .u8 ((hexd (x.toNat / 16)).toNat : Int)) w := by
  have := x.toNat_lt
  have h := idx_digs (x.toNat / 16) (by omega) w
  rwa [show ((x.toNat / 16 : Nat) : Int) = (x.toNat : Int) / 16 from by omega] at h
theorem idx_lo (x : UInt8) (w : World) : (Instr.index 9 (.string { data := #[48, 49, 50, 51, 52, 53, 54, 55, 56, 57, 97, 98, 99, 100, 101, 102] }) (.int .u8 ((x.toNat : Int) % 16))).run Try.prog w = .ok (.int .u8 ((hexd (x.toNat % 16)).toNat : Int)) w := by
  have := x.toNat_lt
  have h := idx_digs (x.toNat % 16) (by omega) w
  rwa [show ((x.toNat % 16 : Nat) : Int) = (x.toNat : Int) % 16 from by omega] at h
theorem and15 (x : UInt8) : bits .and .u8 (x.toNat : Int) 15 = (x.toNat : Int) % 16 := u8_and15 _ (by omega) (by have := x.toNat_lt; omega)

theorem Src.pct {P : Program} (w : World) (u e : TypeId) (hu : P.underlying u = some (.slice e)) (b c : UInt8) (t : TypeId) :
    Src P (w.alloc (.cells #[.int .u8 37, .int .u8 (b.toNat : Int), .int .u8 (c.toNat : Int)] t)).drew u 1 (.slice (some ⟨w.heap.size, 0, none⟩) 3 3) 3 (bv [37, b, c]) :=
  (RdB.new w [37, b, c] _ rfl t (0, 0)).drew.src u e hu

def PrintRel (B : Nat) (w : World) (l : List UInt8) (v i : Value) (wr : World) : Prop :=
  ∃ (k n' c' : Nat) (A' : Option Addr) (l' : List UInt8), k ≤ l.length ∧ i = .int .i64 k ∧ v = .slice A' n' c' ∧ l' = (l.take k).flatMap pb ∧ OwB wr B A' n' c' l' ∧ Below B w wr
def StrPost (w : World) (l : List UInt8) (e : Ending) (w' : World) : Prop := ∃ l', Hid (l' = l) ∧ e = .returned (.string (st l')) ∧ Below w.heap.size w w'

set_option maxHeartbeats 1000000 in
theorem print_any (l : List UInt8) (w : World) (hl : l.length ≤ 65536) : Calls Try.prog 9 #[.string (st l)] w (StrPost w (prt l)) := by
  cases h1 : (l == []) with
  | true =>
    obtain rfl : l = [] := by simpa using h1
    go_enter Try.func9, Try.ntmps9
    go_wp2
    go_ret
    exact ⟨[45], rfl, rfl, Below.refl _ _⟩
  | false =>
    cases h2 : (l == [45]) with
    | true =>
      obtain rfl : l = [45] := by simpa using h2
      go_enter Try.func9, Try.ntmps9
      go_wp2
      go_ret
      exact ⟨[37, 50, 100], rfl, rfl, Below.refl _ _⟩
    | false =>
      have e1 : l ≠ [] := by simpa using h1
      have e2 : l ≠ [45] := by simpa using h2
      have hp : prt l = l.flatMap pb := by unfold prt; rw [if_neg e1, if_neg e2]
      have HP := Lib.hid hp
      have h3 : l.isEmpty = false := by simpa using e1
      clear hp
      go_enter Try.func9, Try.ntmps9
      go_wp2
      go_loopw [3, 13] (fun v i wr => PrintRel w.heap.size w l v i wr) (fun _ i _ => l.length - (intOf i).toNat)
      case atStart => exact ⟨0, 0, 0, none, [], Nat.zero_le _, rfl, rfl, rfl, OwB.nil _ _, Below.refl _ _⟩
      case round =>
        obtain ⟨k, n', c', A', l', hk, rfl, rfl, hl', hown', hbw⟩ := hrel
        have hlb : n' ≤ 3 * l.length := by
          rw [← hown'.len, hl']
          have := (flat_length (l.take k)).1
          rw [List.length_take] at this; omega
        have HL := Lib.hid hl'
        clear hl'
        have hsz := hbw.size
        by_cases hlt : k < l.length
        · obtain ⟨x, hx, hs⟩ : ∃ x : UInt8, (∀ h : k < (st l).size, (st l)[k]'h = x) ∧ (l.take (k + 1)).flatMap pb = (l.take k).flatMap pb ++ pb x := ⟨l[k], st_at l k hlt, pb_snoc l k hlt⟩
          have HS := Lib.hid hs
          clear hs
          have hxb : x.toNat < 256 := x.toNat_lt
          cases hpl : plainB x with
          | true =>
            have hq : 32 < x.toNat ∧ x.toNat < 127 ∧ x.toNat ≠ 37 := by unfold plainB at hpl; simpa using hpl
            have hpx : pb x = [x] := by unfold pb; rw [hpl]; rfl
            have HPX := Lib.hid hpx
            have t1 : decide ((x.toNat : Int) < 33) = false := by simp; omega
            have t2 : decide ((126 : Int) < x.toNat) = false := by simp; omega
            have t3 : ((x.toNat : Int) == 37) = false := beq_eq_false_iff_ne.2 (by omega)
            clear hpx hq
            go_wp2_with (first
              | (at_builtin; go_must (refine wpList_appendB bytesElem rfl (.tmp 38) (.tmp 40) 26 rfl w.heap.size A' n' c' l' rfl (hown'.alloc _) _ rfl 1 [x] (Src.oneByte _ _ _ Try.underlying26 x _) (by omega) (by simp; omega) ?_); intro A3 n3 c3 l3 w3 hl3 hn3 hown3 hb3 hg3))
            go_roundw
            case rel => exact ⟨k + 1, n3, c3, A3, l3, by omega, by go_num, rfl, by rw [hl3.out, HL.out, HS.out, HPX.out], hown3, (hbw.alloc hsz _).trans hb3⟩
            case measure => simp [intOf]; omega
          | false =>
            have hq : x.toNat < 33 ∨ 126 < x.toNat ∨ x.toNat = 37 := by unfold plainB at hpl; simp at hpl; omega
            have hpx : pb x = [37, hexd (x.toNat / 16), hexd (x.toNat % 16)] := by unfold pb; rw [hpl]; rfl
            have HPX := Lib.hid hpx
            have ht : (decide ((x.toNat : Int) < 33) = true) ∨ (decide ((x.toNat : Int) < 33) = false ∧ decide ((126 : Int) < x.toNat) = true) ∨ (decide ((x.toNat : Int) < 33) = false ∧ decide ((126 : Int) < x.toNat) = false ∧ ((x.toNat : Int) == 37) = true) := by
              simp; omega
            clear hpx hq
            have i1 := idx_hi x
            have i2 := idx_lo x
            have i3 := and15 x
            rcases ht with t1 | ⟨t1, t2⟩ | ⟨t1, t2, t3⟩
            · go_wp2
              go_region_held3 (fun W : World => w.heap.size ≤ W.heap.size) (first | exact hsz | (simp; omega) | (have h9 := hb3.size; simp at h9; omega))
                (first | (refine step_appendB bytesElem rfl (.tmp 29) (.tmp 36) 26 rfl w.heap.size A' n' c' l' rfl (hown'.alloc _).drew _ rfl 3 [37, hexd (x.toNat / 16), hexd (x.toNat % 16)] (Src.pct wr 26 5 Try.underlying26 _ _ 5) ?_ ?_ ?_; omega; (simp; omega); intro A3 n3 c3 l3 w3 hl3 hn3 hown3 hb3 hg3))
              all_goals
                go_wp2
                go_roundw
                case rel => exact ⟨k + 1, n3, c3, A3, l3, by omega, by go_num, rfl, by rw [hl3.out, HL.out, HS.out, HPX.out], hown3, ((hbw.alloc hsz _).drew).trans hb3⟩
                case measure => simp [intOf]; omega
            · go_wp2
              go_region_held3 (fun W : World => w.heap.size ≤ W.heap.size) (first | exact hsz | (simp; omega) | (have h9 := hb3.size; simp at h9; omega))
                (first | (refine step_appendB bytesElem rfl (.tmp 29) (.tmp 36) 26 rfl w.heap.size A' n' c' l' rfl (hown'.alloc _).drew _ rfl 3 [37, hexd (x.toNat / 16), hexd (x.toNat % 16)] (Src.pct wr 26 5 Try.underlying26 _ _ 5) ?_ ?_ ?_; omega; (simp; omega); intro A3 n3 c3 l3 w3 hl3 hn3 hown3 hb3 hg3))
              all_goals
                go_wp2
                go_roundw
                case rel => exact ⟨k + 1, n3, c3, A3, l3, by omega, by go_num, rfl, by rw [hl3.out, HL.out, HS.out, HPX.out], hown3, ((hbw.alloc hsz _).drew).trans hb3⟩
                case measure => simp [intOf]; omega
            · go_wp2
              go_region_held3 (fun W : World => w.heap.size ≤ W.heap.size) (first | exact hsz | (simp; omega) | (have h9 := hb3.size; simp at h9; omega))
                (first | (refine step_appendB bytesElem rfl (.tmp 29) (.tmp 36) 26 rfl w.heap.size A' n' c' l' rfl (hown'.alloc _).drew _ rfl 3 [37, hexd (x.toNat / 16), hexd (x.toNat % 16)] (Src.pct wr 26 5 Try.underlying26 _ _ 5) ?_ ?_ ?_; omega; (simp; omega); intro A3 n3 c3 l3 w3 hl3 hn3 hown3 hb3 hg3))
              all_goals
                go_wp2
                go_roundw
                case rel => exact ⟨k + 1, n3, c3, A3, l3, by omega, by go_num, rfl, by rw [hl3.out, HL.out, HS.out, HPX.out], hown3, ((hbw.alloc hsz _).drew).trans hb3⟩
                case measure => simp [intOf]; omega
        · have hk2 : l.take k = l := List.take_of_length_le (by omega)
          have hp2 : l' = prt l := by rw [HL.out, hk2, HP.out]
          have HP2 := Lib.hid hp2
          have hd : decide (k < l.length) = false := by simp; omega
          have hcv := run_bytes_string (P := Try.prog) (c := c') _ _ _ Try.underlying26 Try.underlying5 Try.underlying9 hown'.rd
          clear hp2 hk2
          go_wp2
          go_ret
          exact ⟨l', HP2, rfl, hbw⟩
end Go.Proofs.Ytipmeclcamllbaa
