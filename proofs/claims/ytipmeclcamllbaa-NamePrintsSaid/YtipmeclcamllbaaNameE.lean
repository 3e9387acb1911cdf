/-
  Package name: Scan.
-/
import Derived.Test.YtipmeclcamllbaaNameD
import Derived.IntWalk
namespace Go.Proofs.Ytipmeclcamllbaa
open Go.RowKit
set_option linter.unusedVariables false

def ScanPost (w : World) (r : Option (List UInt8)) (e : Ending) (w' : World) : Prop :=
  ∃ l' E, Hid (l' = r.getD []) ∧ Hid (E = if r.isSome then (0 : Int) else 2) ∧ e = .returned (.tuple #[.string (st l'), .int .i64 E]) ∧ Below w.heap.size w w'

def ScanRel (B : Nat) (w : World) (s : List UInt8) (v i : Value) (wr : World) : Prop :=
  ∃ (k n' c' : Nat) (A' : Option Addr) (b : List UInt8), k ≤ s.length ∧ b.length ≤ k ∧ i = .int .i64 k ∧ v = .slice A' n' c' ∧ dec s = (dec (s.drop k)).map (b ++ ·) ∧ OwB wr B A' n' c' b ∧ Below B w wr

theorem dec_at (s : List UInt8) (k : Nat) (hk : k < s.length) (b : List UInt8) (h : dec s = (dec (s.drop k)).map (b ++ ·)) (hc : s[k] ≠ 37) : dec s = (dec (s.drop (k + 1))).map ((b ++ [s[k]]) ++ ·) := by
  rw [h, List.drop_eq_getElem_cons hk, dec_cons _ _ hc]
  cases dec (s.drop (k + 1)) <;> simp
theorem dec_end (s : List UInt8) (k : Nat) (hk : k < s.length) (b : List UInt8) (h : dec s = (dec (s.drop k)).map (b ++ ·)) (hc : s[k] = 37) (hl : s.length < k + 3) : dec s = none := by
  rw [h, List.drop_eq_getElem_cons hk, hc, dec_short _ (by rw [List.length_drop]; omega)]; rfl
theorem dec_mid (s : List UInt8) (k : Nat) (hl : k + 2 < s.length) (b : List UInt8) (h : dec s = (dec (s.drop k)).map (b ++ ·)) (hc : s[k] = 37) :
    dec s = match unhex s[k + 1], unhex s[k + 2] with | some x, some y => (dec (s.drop (k + 3))).map ((b ++ [UInt8.ofNat (x * 16 + y)]) ++ ·) | _, _ => none := by
  have e : s.drop k = 37 :: s[k + 1] :: s[k + 2] :: s.drop (k + 3) := by
    rw [List.drop_eq_getElem_cons (show k < s.length by omega), hc, List.drop_eq_getElem_cons (show k + 1 < s.length by omega), List.drop_eq_getElem_cons (show k + 1 + 1 < s.length by omega)]
  rw [h, e, dec_pct]
  cases unhex s[k + 1] with
  | none => rfl
  | some x =>
    cases unhex s[k + 2] with
    | none => rfl
    | some y => cases dec (s.drop (k + 3)) <;> simp
theorem scanR_none (s : List UInt8) (h : dec s = none) (h2 : s ≠ [45]) : scanR s = none := by unfold scanR; rw [if_neg h2, h]
theorem scanR_some (s b : List UInt8) (h : dec s = some b) (h2 : s ≠ [45]) : scanR s = if prt b = s then some b else none := by unfold scanR; rw [if_neg h2, h]
theorem unhex_lt {c : UInt8} {n : Nat} (h : unhex c = some n) : n < 16 := by
  unfold unhex at h
  split at h
  · injection h with h; omega
  · split at h
    · injection h with h; omega
    · cases h
theorem quiet_int {f : FuncId} {args : Array Value} {w : World} {n : Nat} {v : Value} (h : Calls Try.prog f args (w.drewN n) fun e w' => e = .returned v ∧ w.drewN n = w') : Calls Try.prog f args (w.drewN n) fun e w'' => e = .returned v ∧ ∃ m, w'' = w.drewN m :=
  h.mono fun _ _ ⟨he, hm⟩ => ⟨he, n, hm.symm⟩

theorem or_hex (a d : Nat) (ha : a < 16) (hd : d < 16) : bits .or .i64 ((a : Int) * 16) (d : Int) = ((UInt8.ofNat (a * 16 + d)).toNat : Int) := by
  have : ∀ a d : Fin 16, bits .or .i64 ((a.val : Int) * 16) (d.val : Int) = ((UInt8.ofNat (a.val * 16 + d.val)).toNat : Int) := by decide +kernel
  exact this ⟨a, ha⟩ ⟨d, hd⟩

set_option maxHeartbeats 2000000 in
theorem scan_any (s : List UInt8) (w : World) (hl : s.length ≤ 65536) : Calls Try.prog 20 #[.string (st s)] w (ScanPost w (scanR s)) := by
  cases h1 : (s == [45]) with
  | true =>
    obtain rfl : s = [45] := by simpa using h1
    go_enter Try.func20, Try.ntmps20
    go_wp2
    go_ret2
    exact ⟨[], 0, rfl, rfl, rfl, Below.refl _ _⟩
  | false =>
    have e1 : s ≠ [45] := by simpa using h1
    have E1 := Lib.hid e1
    clear e1
    go_enter Try.func20, Try.ntmps20
    go_wp2
    go_loopw [4, 5] (fun v i wr => ScanRel w.heap.size w s v i wr) (fun _ i _ => s.length - (intOf i).toNat)
    case atStart => exact ⟨0, 0, 0, none, [], Nat.zero_le _, Nat.le_refl _, rfl, rfl, by simp, OwB.nil _ _, Below.refl _ _⟩
    case round =>
      obtain ⟨k, n', c', A', b, hk, hbl, rfl, rfl, hdec, hown', hbw⟩ := hrel
      have hlb : n' ≤ 65536 := by rw [← hown'.len]; omega
      have hsz := hbw.size
      by_cases hlt : k < s.length
      · have hx := st_at s k hlt
        by_cases hc : s[k] = 37
        · obtain ⟨x, hx37⟩ : ∃ x : UInt8, s[k] = x := ⟨_, rfl⟩
          have hx2 : ∀ h : k < (st s).size, (st s)[k]'h = x := fun h => (hx h).trans hx37
          have t0 : ((x.toNat : Int) == 37) = true := by rw [← hx37, hc]; rfl
          by_cases hshort : s.length < k + 3
          · have hn := scanR_none s (dec_end s k hlt b hdec hc hshort) E1.out
            have HN := Lib.hid hn
            have t1 : decide ((s.length : Int) - k < 3) = true := by simp; omega
            clear hn hdec hx hc hx37
            go_wp2
            go_ret2
            exact ⟨[], 2, by rw [HN.out]; rfl, by rw [HN.out]; rfl, rfl, hbw⟩
          · have hmid := dec_mid s k (by omega) b hdec hc
            obtain ⟨y, hy37⟩ : ∃ y : UInt8, s[k + 1] = y := ⟨_, rfl⟩
            obtain ⟨z, hz37⟩ : ∃ z : UInt8, s[k + 2] = z := ⟨_, rfl⟩
            rw [hy37, hz37] at hmid
            have hy2 : ∀ h : k + 1 < (st s).size, (st s)[k + 1]'h = y := fun h => (st_at s (k + 1) (by omega) h).trans hy37
            have hz2 : ∀ h : k + 2 < (st s).size, (st s)[k + 2]'h = z := fun h => (st_at s (k + 2) (by omega) h).trans hz37
            have t1 : decide ((s.length : Int) - k < 3) = false := by simp; omega
            have b1 : (k : Int) + 1 < s.length := by omega
            have b2 : (k : Int) + 2 < s.length := by omega
            have HM := Lib.hid hmid
            clear hmid hdec hx hc hx37 hy37 hz37
            have w1 : IntKind.i64.wrap ((k : Int) + 1) = (k : Int) + 1 := IntWalk.i64_in _ (by omega)
            have w2 : IntKind.i64.wrap ((k : Int) + 2) = (k : Int) + 2 := IntWalk.i64_in _ (by omega)
            have w3 : (0 : Int) ≤ (k : Int) + 1 := by omega
            have w4 : (0 : Int) ≤ (k : Int) + 2 := by omega
            have w5 : ((k : Int) + 1).toNat = k + 1 := by omega
            have w6 : ((k : Int) + 2).toNat = k + 2 := by omega
            cases hy : unhex y with
            | none =>
              have hv : hexv y = -1 := by unfold hexv; rw [hy]
              have hm2 := HM.out
              rw [hy] at hm2
              have hn := scanR_none s hm2 E1.out
              have HN := Lib.hid hn
              clear hn hm2 HM hy
              go_wp2
              go_quiet ((first | (go_at_call 23; exact quiet_int (idxByte_any _ _))))
              go_wp2
              go_ret2
              exact ⟨[], 2, by rw [HN.out]; rfl, by rw [HN.out]; rfl, rfl, below_drewN hbw _⟩
            | some a =>
              have hv : hexv y = a := by unfold hexv; rw [hy]
              cases hz : unhex z with
              | none =>
                have hv2 : hexv z = -1 := by unfold hexv; rw [hz]
                have hm2 := HM.out
                rw [hy, hz] at hm2
                have hn := scanR_none s hm2 E1.out
                have HN := Lib.hid hn
                clear hn hm2 HM hy hz
                go_wp2
                go_quiet ((first | (go_at_call 23; exact quiet_int (idxByte_any _ _))))
                go_wp2
                go_ret2
                exact ⟨[], 2, by rw [HN.out]; rfl, by rw [HN.out]; rfl, rfl, below_drewN hbw _⟩
              | some d =>
                have hv2 : hexv z = d := by unfold hexv; rw [hz]
                have ha := unhex_lt hy
                have hd := unhex_lt hz
                have hm2 := HM.out
                rw [hy, hz] at hm2
                have hor := or_hex a d ha hd
                have ta : decide ((a : Int) < 0) = false := by simp
                have td : decide ((d : Int) < 0) = false := by simp
                obtain ⟨q, hq0⟩ : ∃ q, q = UInt8.ofNat (a * 16 + d) := ⟨_, rfl⟩
                simp only [← hq0] at hor hm2
                have HM2 := Lib.hid hm2
                clear hm2 HM hy hz hq0
                have hq : ((q.toNat : Int) % 256) = q.toNat := by have := q.toNat_lt; omega
                go_wp2
                go_quiet ((first | (go_at_call 23; exact quiet_int (idxByte_any _ _))))
                have hown2 := hown'.drewN nq
                have hbw2 := below_drewN hbw nq
                have hsz2 : w.heap.size ≤ (wr.drewN nq).heap.size := hsz
                generalize wr.drewN nq = wx at hown2 hbw2 hsz2 ⊢
                clear hown' hbw hsz w1 w2 w3 w4 w5 w6
                go_wp2_with (first
                  | (at_builtin; go_must (refine wpList_appendB bytesElem rfl (.tmp 50) (.tmp 52) 26 rfl w.heap.size A' n' c' b rfl (hown2.alloc _) _ rfl 1 [q] (Src.oneByte _ _ _ Try.underlying26 q _) (by omega) (by simp; omega) ?_); intro A3 n3 c3 l3 w3 hl3 hn3 hown3 hb3 hg3))
                go_roundw
                case rel => exact ⟨k + 3, n3, c3, A3, l3, by omega, by rw [hl3.out, List.length_append]; simp; omega, by go_num, rfl, by rw [hl3.out]; exact HM2.out, hown3, (hbw2.alloc hsz2 _).trans hb3⟩
                case measure => simp [intOf]; omega
        · obtain ⟨x, hx37⟩ : ∃ x : UInt8, s[k] = x := ⟨_, rfl⟩
          have hx2 : ∀ h : k < (st s).size, (st s)[k]'h = x := fun h => (hx h).trans hx37
          have hm2 := dec_at s k hlt b hdec hc
          rw [hx37] at hc hm2
          have t0 : ((x.toNat : Int) == 37) = false := by
            rw [beq_eq_false_iff_ne]; intro e; apply hc; apply UInt8.toNat_inj.1; show x.toNat = 37; omega
          have HM2 := Lib.hid hm2
          clear hm2 hdec hx hc hx37
          go_wp2_with (first
            | (at_builtin; go_must (refine wpList_appendB bytesElem rfl (.tmp 50) (.tmp 52) 26 rfl w.heap.size A' n' c' b rfl (hown'.alloc _) _ rfl 1 [x] (Src.oneByte _ _ _ Try.underlying26 x _) (by omega) (by simp; omega) ?_); intro A3 n3 c3 l3 w3 hl3 hn3 hown3 hb3 hg3))
          go_roundw
          case rel => exact ⟨k + 1, n3, c3, A3, l3, by omega, by rw [hl3.out, List.length_append]; simp; omega, by go_num, rfl, by rw [hl3.out]; exact HM2.out, hown3, (hbw.alloc hsz _).trans hb3⟩
          case measure => simp [intOf]; omega
      · have hd2 : dec s = some b := by rw [hdec, List.drop_of_length_le (by omega)]; simp [dec]
        have hsr := scanR_some s b hd2 E1.out
        have hd : decide (k < s.length) = false := by simp; omega
        have hcv := run_bytes_string (P := Try.prog) (c := c') _ _ _ Try.underlying26 Try.underlying5 Try.underlying9 hown'.rd
        have HR := Lib.hid hsr
        clear hdec hd2 hsr
        go_wp2_with fail
        refine (print_any b _ (by omega)).mono ?_
        rintro e w1 ⟨p, hp, rfl, hb1⟩
        have hcv1 := run_bytes_string (P := Try.prog) (c := c') _ _ _ Try.underlying26 Try.underlying5 Try.underlying9 (hown'.rd.below hb1)
        cases hps : (p == s) with
        | true =>
          have e2 : prt b = s := by rw [← hp.out]; simpa using hps
          have hr2 := HR.out
          rw [if_pos e2] at hr2
          have HR2 := Lib.hid hr2
          have hps2 : (p != s) = false := by simp [bne, hps]
          clear hr2 e2 HR hp
          go_wp2
          go_ret2
          exact ⟨b, 0, by rw [HR2.out]; rfl, by rw [HR2.out]; rfl, rfl, Up.trans hbw hb1⟩
        | false =>
          have e2 : ¬ prt b = s := by rw [← hp.out]; simpa using hps
          have hr2 := HR.out
          rw [if_neg e2] at hr2
          have HR2 := Lib.hid hr2
          have hps2 : (p != s) = true := by simp [bne, hps]
          clear hr2 e2 HR hp
          go_wp2
          go_ret2
          exact ⟨[], 2, by rw [HR2.out]; rfl, by rw [HR2.out]; rfl, rfl, Up.trans hbw hb1⟩
end Go.Proofs.Ytipmeclcamllbaa
