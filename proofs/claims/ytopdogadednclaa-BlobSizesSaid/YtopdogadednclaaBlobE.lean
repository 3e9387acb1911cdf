/-
  The reference of layer 12: Write.
-/
import Derived.Test.YtopdogadednclaaBlobD
namespace Go.Proofs.Ytopdogadednclaa
open Go.RowKit
set_option linter.unusedVariables false

theorem st_at (l : List UInt8) (j : Nat) (hj : j < l.length) : ∀ h : j < (st l).size, (st l)[j]'h = l[j] := by
  intro h
  rfl

def OutRel (B : Nat) (w : World) (l d : List UInt8) (off : Nat) (v i : Value) (wr : World) : Prop :=
  ∃ (j n' c' : Nat) (A' : Option Addr) (l' : List UInt8), j ≤ d.length ∧ i = .int .i64 j ∧ v = .slice A' n' c' ∧ l' = wrl l off (d.take j) ∧ OwB wr B A' n' c' l' ∧ Below B w wr

def InRel (B : Nat) (w : World) (l : List UInt8) (most : Nat) (v : Value) (wr : World) : Prop :=
  ∃ (k n' c' : Nat) (A' : Option Addr) (l' : List UInt8), (k = 0 ∨ l.length + k ≤ most) ∧ v = .slice A' n' c' ∧ l' = l ++ List.replicate k 0 ∧ OwB wr B A' n' c' l' ∧ Below B w wr

theorem pad_of (l : List UInt8) (k m : Nat) (h1 : k = 0 ∨ l.length + k ≤ m) (h2 : m ≤ l.length + k) : l ++ List.replicate k 0 = padTo l m := by
  unfold padTo
  congr 2
  omega

theorem refWrite_any (l : List UInt8) (off : Nat) (d : List UInt8) (w : World) (hl : l.length ≤ 4096) (hd : d.length ≤ 4096) (ho : off ≤ 9223372036854775807) :
    Calls Try.prog 14 #[.string (st l), .int .i64 off, .string (st d)] w (ResPost w (wrB l off d) (wrE off d)) := by
  have hsz := st_size d
  by_cases hbig : big off d.length = true
  · have hw1 : wrB l off d = [] := by unfold wrB; rw [if_pos hbig]
    have hw2 : wrE off d = 15 := by unfold wrE; rw [if_pos hbig]
    rw [hw1, hw2]
    clear hw1 hw2
    go_enter Try.func14, Try.ntmps14
    go_wp2_with fail
    refine (refTooBig_any off d.length _ ho (by omega)).mono ?_
    rintro e w' ⟨rfl, rfl⟩
    go_wp2
    go_ret2
    exact ⟨[], 15, rfl, rfl, rfl, Below.refl _ _⟩
  · have hbig' : big off d.length = false := by simpa using hbig
    have hle : d.length = 0 ∨ off + d.length ≤ 2048 := by unfold big at hbig'; simp at hbig'; omega
    have hw1 : wrB l off d = wrl l off d := by unfold wrB; rw [if_neg hbig]
    have hw2 : wrE off d = 0 := by unfold wrE; rw [if_neg hbig]
    rw [hw1, hw2]
    clear hw1 hw2 hbig
    go_enter Try.func14, Try.ntmps14
    go_wp2_with fail
    refine (refTooBig_any off d.length _ ho (by omega)).mono ?_
    rintro e w' ⟨rfl, rfl⟩
    go_wp2_with (with_reducible refine wpList_stringB bytesElem Try.underlying5 rfl (.tmp 16) 9 Try.underlying9 rfl l rfl (by omega) w.heap.size (Nat.le_refl _) ?_; intro g n0 c0 w1 hn0 hown1 hb1)
    go_loopw [9, 10] (fun v i wr => OutRel w.heap.size w l d off v i wr) (fun _ i _ => d.length - (intOf i).toNat)
    case atStart => exact ⟨0, n0, c0, _, l, Nat.zero_le _, rfl, rfl, by rw [List.take_zero, wrl_nil], hown1, hb1⟩
    case round =>
      obtain ⟨j, n', c', A', l', hj, rfl, rfl, hl', hown', hbw⟩ := hrel
      have hln : n' = l'.length := hown'.len.symm
      have hlen := wrl_length l off (d.take j)
      have hlb : n' ≤ 8192 := by
        rw [hln, hl', hlen]
        split
        · omega
        · rename_i h; have : (d.take j).length = j := by rw [List.length_take]; omega
          rw [this]
          have : d.length ≠ 0 := by intro h0; apply h; rw [List.eq_nil_of_length_eq_zero h0]; simp
          omega
      have HL := Lib.hid hl'
      have HN := Lib.hid hln
      clear hl' hln hlen
      by_cases hlt : j < d.length
      · obtain ⟨wo, rfl⟩ : ∃ wo : World, wo = wr := ⟨_, rfl⟩
        go_wp2
        go_loopw [9] (fun v wr => InRel w.heap.size w l' (off + j + 1) v wr) (fun v _ => off + j + 1 - lenV v)
        case atStart => exact ⟨0, n', c', _, l', .inl rfl, rfl, by simp, hown', hbw⟩
        case round =>
          obtain ⟨k, n2, c2, A2, l2, hk, rfl, hl2, hown2, hbw2⟩ := hrel
          have hln2 : n2 = l'.length + k := by rw [← hown2.len, hl2]; simp
          have hln' := HN.out
          have hlb2 : n2 ≤ 16384 := by omega
          have hsz2 := hbw2.size
          have HL2 := Lib.hid hl2
          by_cases hlt2 : n2 ≤ off + j
          · have hk2 : l'.length + (k + 1) ≤ off + j + 1 := by omega
            clear hl2 hln2 hln' hk
            go_wp2_with (first
              | (at_builtin; go_must (refine wpList_appendB bytesElem rfl (.tmp 30) (.tmp 31) 22 rfl w.heap.size A2 n2 c2 l2 rfl (hown2.alloc _) _ rfl 1 [0] (Src.oneByte _ _ _ Try.underlying22 0 _) (by omega) (by simp; omega) ?_); intro A3 n3 c3 l3 w3 hl3 hn3 hown3 hb3 hg3))
            have hn4 := hn3.out
            go_roundw
            case rel => exact ⟨k + 1, n3, c3, A3, l3, .inr hk2, rfl, by rw [hl3.out, HL2.out, List.replicate_succ', List.append_assoc], hown3, (hbw2.alloc hsz2 _).trans hb3⟩
            case measure => simp [lenV]; omega
          · have hp := pad_of l' k (off + j + 1) hk (by omega)
            rw [← hl2] at hp
            have HP := Lib.hid hp
            obtain ⟨g2, rfl, _, _⟩ := hown2.blk (by omega)
            clear hl2 hln2 hln' hk hp
            obtain ⟨x, hx, hts⟩ : ∃ x : UInt8, (∀ h : j < (st d).size, (st d)[j]'h = x) ∧ d.take (j + 1) = d.take j ++ [x] := ⟨d[j], st_at d j hlt, List.take_succ_eq_append_getElem hlt⟩
            have HX := Lib.hid hts
            clear hts
            obtain ⟨⟨u0, hc⟩, hf, hown3, hg3⟩ := Own.store hown2 (off + j) (by omega) (.int .u8 (x.toNat : Int))
            have H3 := Lib.hid hown3
            clear hown3
            go_wp2
            go_roundw
            case rel =>
              refine ⟨j + 1, n2, c2, _, l2.set (off + j) x, by omega, by go_num, rfl, ?_, ?_, ?_⟩
              · have e : (d.take j).length = j := by rw [List.length_take]; omega
                have := wrl_step l off (d.take j) x
                rw [e] at this
                rw [HX.out, ← this, HP.out, HL.out]
              · have := H3.out
                unfold OwB
                rw [bv_set]
                exact this
              · exact hbw2.grown (row := some g2) hg3 hbw2.size (by intro k hk; injection hk with hk; omega)
            case measure => simp [intOf]; omega
      · have e : d.take j = d := List.take_of_length_le (by omega)
        have hl2 := HL.out
        rw [e] at hl2
        have HE := Lib.hid hl2
        clear hl2 e
        have hcv := run_bytes_string (P := Try.prog) (c := c') 22 9 5 Try.underlying22 Try.underlying5 Try.underlying9 hown'.rd
        have hdd : decide (j < d.length) = false := by simp; omega
        go_wp2
        go_ret2
        exact ⟨l', 0, HE, rfl, rfl, hbw⟩
end Go.Proofs.Ytopdogadednclaa
