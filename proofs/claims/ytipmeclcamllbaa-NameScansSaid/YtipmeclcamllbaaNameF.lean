/-
  The reference's Scan.
-/
import Derived.Test.YtipmeclcamllbaaNameE
namespace Go.Proofs.Ytipmeclcamllbaa
open Go.RowKit
set_option linter.unusedVariables false

theorem ref_end (s o : List UInt8) (h : s = o.flatMap pb) (h0 : s ≠ []) (h1 : s ≠ [45]) : scanR s = some o := by
  have hd : dec s = some o := by rw [h]; exact dec_flat o
  rw [scanR_some s o hd h1]
  have o0 : o ≠ [] := by intro e; apply h0; rw [h, e]; rfl
  have o1 : o ≠ [45] := by intro e; apply h1; rw [h, e]; decide
  have : prt o = s := by unfold prt; rw [if_neg o0, if_neg o1, h]
  rw [if_pos this]
theorem ref_fail (s o t : List UInt8) (h : s = o.flatMap pb ++ t) (ht : t ≠ []) (h1 : s ≠ [45]) (h2 : s ≠ [37, 50, 100]) (hno : ∀ c : UInt8, ¬ pb c <+: t) : scanR s = none := by
  have hd : dec s = (dec t).map (o ++ ·) := by rw [h]; exact dec_flat_app o t
  cases ht2 : dec t with
  | none => rw [ht2] at hd; exact scanR_none s hd h1
  | some b =>
    rw [ht2] at hd
    rw [scanR_some s (o ++ b) hd h1, if_neg]
    intro e
    have n0 : o ++ b ≠ [] := by intro e0; rw [e0] at e; exact h1 e.symm
    have n1 : o ++ b ≠ [45] := by intro e0; rw [e0] at e; exact h2 e.symm
    unfold prt at e
    rw [if_neg n0, if_neg n1, List.flatMap_append, h] at e
    have e2 : b.flatMap pb = t := List.append_cancel_left e
    cases b with
    | nil => exact ht e2.symm
    | cons c r => exact hno c ⟨r.flatMap pb, by rw [← e2, List.flatMap_cons]⟩

theorem one_str (x : UInt8) (W : World) : (convert 26 9 (.slice (some ⟨W.heap.size, 0, none⟩) 1 1)).run Try.prog (W.alloc (.cells #[.int .u8 (x.toNat : Int)] 5)) = .ok (.string (st [x])) (W.alloc (.cells #[.int .u8 (x.toNat : Int)] 5)) :=
  run_bytes_string (n := 1) (c := 1) 26 9 5 Try.underlying26 Try.underlying5 Try.underlying9 (RdB.new W [x] #[.int .u8 (x.toNat : Int)] rfl 5 (0, 0))
theorem st_extract (l : List UInt8) (i j : Nat) : (st l).extract i j = st ((l.drop i).take (j - i)) := by
  apply ByteArray.ext
  simp [st, List.extract_eq_take_drop]

def OutS (s : List UInt8) (w : World) (o i : Value) (wr : World) : Prop :=
  ∃ (k : Nat) (q : List UInt8), k ≤ s.length ∧ q.length ≤ k ∧ i = .int .i64 k ∧ o = .string (st q) ∧ s = q.flatMap pb ++ s.drop k ∧ Below w.heap.size w wr
def InS (s : List UInt8) (w : World) (k : Nat) (q : List UInt8) (o i f c : Value) (wr : World) : Prop :=
  ∃ j : Nat, j ≤ 256 ∧ c = .int .i64 j ∧ Below w.heap.size w wr ∧
    ((f = .bool false ∧ o = .string (st q) ∧ i = .int .i64 k ∧ ∀ m, m < j → ¬ pb (UInt8.ofNat m) <+: s.drop k) ∨
     (f = .bool true ∧ ∃ x : UInt8, pb x <+: s.drop k ∧ o = .string (st (q ++ [x])) ∧ i = .int .i64 (k + (pb x).length : Nat)))

set_option maxHeartbeats 4000000 in
set_option maxRecDepth 100000 in
theorem refScan_any (s : List UInt8) (w : World) (hl : s.length ≤ 65536) : Calls Try.prog 22 #[.string (st s)] w (ScanPost w (scanR s)) := by
  cases h1 : (s == [45]) with
  | true =>
    obtain rfl : s = [45] := by simpa using h1
    go_enter Try.func22, Try.ntmps22
    go_wp2
    go_ret2
    exact ⟨[], 0, rfl, rfl, rfl, Below.refl _ _⟩
  | false =>
    cases h2 : (s == [37, 50, 100]) with
    | true =>
      obtain rfl : s = [37, 50, 100] := by simpa using h2
      have e : scanR [37, 50, 100] = some [45] := by decide
      rw [e]
      clear e
      go_enter Try.func22, Try.ntmps22
      go_wp2
      go_ret2
      exact ⟨[45], 0, rfl, rfl, rfl, Below.refl _ _⟩
    | false =>
      cases h3 : (s == []) with
      | true =>
        obtain rfl : s = [] := by simpa using h3
        have e : scanR [] = none := by decide
        rw [e]
        clear e
        go_enter Try.func22, Try.ntmps22
        go_wp2
        go_ret2
        exact ⟨[], 2, rfl, rfl, rfl, Below.refl _ _⟩
      | false =>
        have e1 : s ≠ [45] := by simpa using h1
        have e2 : s ≠ [37, 50, 100] := by simpa using h2
        have e3 : s ≠ [] := by simpa using h3
        have E1 := Lib.hid e1
        have E2 := Lib.hid e2
        have E3 := Lib.hid e3
        have h4 : s.isEmpty = false := by simpa using e3
        clear e1 e2 e3
        go_enter Try.func22, Try.ntmps22
        go_wp2
        go_loopw [4, 5] (fun o i wr => OutS s w o i wr) (fun _ i _ => s.length - (intOf i).toNat)
        case atStart => exact ⟨0, [], Nat.zero_le _, Nat.le_refl _, rfl, rfl, by simp, Below.refl _ _⟩
        case round =>
          obtain ⟨k, q, hk, hql, rfl, rfl, hsq, hbw⟩ := hrel
          have HSQ := Lib.hid hsq
          clear hsq
          by_cases hlt : k < s.length
          · obtain ⟨wo, rfl⟩ : ∃ wo : World, wo = wr := ⟨_, rfl⟩
            go_wp2
            go_loopw [4, 5, 6, 7] (fun o i f c wr => InS s w k q o i f c wr) (fun _ _ f c _ => 256 - (intOf c).toNat)
            case atStart => exact ⟨0, by omega, rfl, hbw, .inl ⟨rfl, rfl, rfl, fun m hm => absurd hm (by omega)⟩⟩
            case round =>
              obtain ⟨j, hj, rfl, hbw2, hcase⟩ := hrel
              rcases hcase with ⟨rfl, rfl, rfl, hno⟩ | ⟨rfl, x, hpx, rfl, rfl⟩
              · have HNO := Lib.hid hno
                clear hno
                by_cases hj2 : j < 256
                · have tj : decide ((j : Int) < 256) = true := by simp; omega
                  obtain ⟨x, hx0⟩ : ∃ x : UInt8, x = UInt8.ofNat j := ⟨_, rfl⟩
                  have hxj : (x.toNat : Int) = (j : Int) := by rw [hx0]; simp; omega
                  have hbyte := byte_any x wr
                  rw [hxj] at hbyte
                  have HB := Lib.hid hbyte
                  have hstr := one_str x
                  rw [hxj] at hstr
                  have HX0 := Lib.hid hx0
                  clear hbyte hx0 hxj
                  go_wp2_with fail
                  refine HB.out.mono ?_
                  rintro e w1 ⟨p, hp, rfl, hb1⟩
                  have hpl := pb_length x
                  rw [← hp.out] at hpl
                  have hxt : (st s).extract k (k + p.length) = st ((s.drop k).take p.length) := by rw [st_extract, Nat.add_sub_cancel_left]
                  have hbn := Up.trans hbw2 hb1
                  have hnq : ¬ (9223372036854775807 < q.length + 1) := by omega
                  by_cases hm : p <+: s.drop k
                  · have hle := hm.length_le
                    rw [List.length_drop] at hle
                    rw [← List.prefix_iff_eq_take.1 hm] at hxt
                    have t1 : decide ((p.length : Int) ≤ (s.length : Int) - k) = true := by simp; omega
                    have b1 : (k : Int) + p.length ≤ s.length := by omega
                    have HM : Hid (pb x <+: s.drop k) := by rw [← hp.out]; exact hm
                    have HL : Hid (p.length = (pb x).length) := by rw [hp.out]; rfl
                    clear hm HNO
                    go_wp2
                    go_roundw
                    case rel => exact ⟨j + 1, by omega, by go_num, hbn.alloc hbn.size _, .inr ⟨rfl, x, HM.out, rfl, by rw [← HL.out]; go_num⟩⟩
                    case measure => simp [intOf]; omega
                  · have HNO2 : Hid (∀ m, m < j + 1 → ¬ pb (UInt8.ofNat m) <+: s.drop k) := by
                      intro m hm2
                      by_cases e : m = j
                      · subst e; rw [← HX0.out, ← hp.out]; exact hm
                      · exact HNO.out m (by omega)
                    by_cases hle : p.length ≤ s.length - k
                    · have t1 : decide ((p.length : Int) ≤ (s.length : Int) - k) = true := by simp; omega
                      have b1 : (k : Int) + p.length ≤ s.length := by omega
                      have hne : ((s.drop k).take p.length == p) = false := by
                        rw [beq_eq_false_iff_ne]
                        intro e
                        exact hm (List.prefix_iff_eq_take.2 e.symm)
                      generalize (s.drop k).take p.length = t at hxt hne
                      clear hm HNO
                      go_wp2
                      go_roundw
                      case rel => exact ⟨j + 1, by omega, by go_num, hbn, .inl ⟨rfl, rfl, rfl, HNO2.out⟩⟩
                      case measure => simp [intOf]; omega
                    · have t1 : decide ((p.length : Int) ≤ (s.length : Int) - k) = false := by simp; omega
                      clear hm HNO hxt
                      go_wp2
                      go_roundw
                      case rel => exact ⟨j + 1, by omega, by go_num, hbn, .inl ⟨rfl, rfl, rfl, HNO2.out⟩⟩
                      case measure => simp [intOf]; omega
                · have hj3 : j = 256 := by omega
                  have hnone : scanR s = none := by
                    refine ref_fail s q (s.drop k) HSQ.out ?_ E1.out E2.out ?_
                    · intro e; have := congrArg List.length e; rw [List.length_drop] at this; simp at this; omega
                    · intro c
                      have := HNO.out c.toNat (by have := c.toNat_lt; omega)
                      simpa using this
                  have HN := Lib.hid hnone
                  have tj : decide ((j : Int) < 256) = false := by simp; omega
                  clear hnone HNO
                  go_wp2
                  go_ret2
                  exact ⟨[], 2, by rw [HN.out]; rfl, by rw [HN.out]; rfl, rfl, hbw2⟩
              · have hle := hpx.length_le
                rw [List.length_drop] at hle
                have hpos := (pb_length x).2
                have hsq2 : s = (q ++ [x]).flatMap pb ++ s.drop (k + (pb x).length) := by
                  obtain ⟨r, hr⟩ := hpx
                  have : s.drop (k + (pb x).length) = r := by rw [← List.drop_drop, ← hr]; simp
                  rw [this, List.flatMap_append]
                  have h9 := HSQ.out
                  rw [← hr] at h9
                  simpa using h9
                have H9 := Lib.hid hsq2
                clear hsq2
                generalize hpn : (pb x).length = pn at hle hpos H9 ⊢
                clear hpn hpx
                have tj : decide ((j : Int) < 256) = true ∨ decide ((j : Int) < 256) = false := by cases decide ((j : Int) < 256) <;> simp
                rcases tj with tj | tj
                · go_wp2
                  go_roundw
                  case rel => exact ⟨k + pn, q ++ [x], by omega, by simp; omega, rfl, rfl, H9.out, hbw2⟩
                  case measure => simp [intOf]; omega
                · go_wp2
                  go_roundw
                  case rel => exact ⟨k + pn, q ++ [x], by omega, by simp; omega, rfl, rfl, H9.out, hbw2⟩
                  case measure => simp [intOf]; omega
          · have hq2 : s = q.flatMap pb := by
              have h9 := HSQ.out
              rw [List.drop_of_length_le (by omega), List.append_nil] at h9
              exact h9
            have hsome := ref_end s q hq2 E3.out E1.out
            have HN := Lib.hid hsome
            have hd : decide (k < s.length) = false := by simp; omega
            clear hsome hq2 HSQ
            go_wp2
            go_ret2
            exact ⟨q, 0, by rw [HN.out]; rfl, by rw [HN.out]; rfl, rfl, hbw⟩
end Go.Proofs.Ytipmeclcamllbaa
